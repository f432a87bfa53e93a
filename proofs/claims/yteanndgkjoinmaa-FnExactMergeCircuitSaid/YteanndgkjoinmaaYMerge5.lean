/- Texts of this claim, joined: what the claim's last text comes to. They hold without any condition beyond those that each states. -/
import Derived.Test.YteanndgkjoinmaaYMerge4
import Derived.Maps.OwnOps
import Derived.Maps.OwnSet
import Derived.DeepKeys4
namespace Go.Proofs.Yteanndgkjoinmaa.X
open Go.RowKit Go.Proofs.YteanndgkjoinmaaW.PrintWords Go.Proofs.YteanndgkjoinmaaW.PrintLast Go.Proofs.YteanndgkjoinmaaW.PrintMore
set_option linter.unusedVariables false
set_option linter.unusedSimpArgs false
def renL (step : Nat → S68 → List S68 → Int × List S68) : List S68 → Nat → List Int → List S68 → List Int × List S68
  | [], _, pl, og => (pl, og)
  | g :: rest, i, pl, og =>
    renL step rest (i + 1) (pl ++ [(step i (if g.f0 = 2 ∨ g.f0 = 3 then ⟨g.f0, rd pl g.f1, rd pl g.f2⟩ else g) og).1]) (step i (if g.f0 = 2 ∨ g.f0 = 3 then ⟨g.f0, rd pl g.f1, rd pl g.f2⟩ else g) og).2
theorem keep_row {W w' : World} {N0 gp b : Nat} {ok ok1 : Nat → Prop} {v u1 : Value} {xs : List Int} {q : IntKind} {lg : List S68} {cs : Array Value} (h : Kd.R (Kd.int q) 66 W N0 ok v xs) (hgp : W.heap[gp]? = some (.cells cs 30 (0, 0))) (hu : Kd.R k68 68 W b ok1 u1 lg) (hk : ∀ j, j < W.heap.size → N0 ≤ j → j ≠ gp → some j ≠ u1.ownBlock → w'.heap[j]? = W.heap[j]?) : Kd.R (Kd.int q) 66 w' N0 ok v xs := by
  refine Kd.R_mono (Kd.R_move (Kd.R_bound h) (fun k hk2 => ?_)) (fun _ hk => hk.1)
  obtain ⟨_, h1, h2, t, ht, cells, hc⟩ := hk2
  have ht' : t = 66 := by simpa [Kd.int, Kd.scalar] using ht
  subst ht'
  refine hk k h2 h1 ?_ ?_
  · rintro rfl; rw [hgp] at hc; cases hc
  · intro he
    obtain ⟨cells', hc'⟩ := Kd.R_typed hu k he.symm
    rw [hc'] at hc; cases hc
theorem keep_blk {W w' : World} {N0 gp b g : Nat} {ok1 : Nat → Prop} {u1 : Value} {lg : List S68} {cs : Array Value} (h : W.heap[g]? = some (.cells cs 30 (0, 0))) (hg : N0 ≤ g) (hne : g ≠ gp) (hu : Kd.R k68 68 W b ok1 u1 lg) (hk : ∀ j, j < W.heap.size → N0 ≤ j → j ≠ gp → some j ≠ u1.ownBlock → w'.heap[j]? = W.heap[j]?) : w'.heap[g]? = some (.cells cs 30 (0, 0)) := by
  rw [hk g (blk_lt h) hg hne ?_]
  · exact h
  · intro he
    obtain ⟨cells', hc'⟩ := Kd.R_typed hu g he.symm
    rw [hc'] at h; cases h
theorem below_up {w0 w1 w2 : World} {N0 : Nat} (h : Below w0.heap.size w0 w1) (hn : w0.heap.size ≤ N0) (k : Below N0 w1 w2) : Below w0.heap.size w0 w2 := h.trans (k.mono hn)
structure Fr (gb2 gb4 gb5 g8 : Nat) (b2 b4 b5 : Array Value) (w0 w wr : World) (vP u1 : Value) (pl : List Int) (ol : List S68) (W : World) : Prop where
  op : Kd.R (Kd.int .i16) 66 W w.heap.size (fun _ => True) vP pl
  og : Kd.R k68 68 W w0.heap.size (fun k => w.heap.size ≤ k ∧ k ≠ g8) u1 ol
  b2 : W.heap[gb2]? = some (.cells b2 30 (0, 0))
  b4 : W.heap[gb4]? = some (.cells b4 30 (0, 0))
  b5 : W.heap[gb5]? = some (.cells b5 30 (0, 0))
  hb : Below w0.heap.size w0 W
  hz : w.heap.size ≤ W.heap.size
  hn : Below w.heap.size wr W
section
variable {gb2 gb4 gb5 g8 : Nat} {b2 b4 b5 cs : Array Value} {w0 w wr W W' : World} {vP u1 : Value} {pl : List Int} {ol : List S68}
theorem Fr.below (h : Fr gb2 gb4 gb5 g8 b2 b4 b5 w0 w wr vP u1 pl ol W) (k : Below W.heap.size W W') : Fr gb2 gb4 gb5 g8 b2 b4 b5 w0 w wr vP u1 pl ol W' :=
  ⟨Kd.R_below h.op k, Kd.R_below h.og k, blk_below h.b2 k, blk_below h.b4 k, blk_below h.b5 k, below_step h.hb k, Nat.le_trans h.hz k.size, h.hn.trans (k.mono h.hz)⟩
theorem Fr.set (h : Fr gb2 gb4 gb5 g8 b2 b4 b5 w0 w wr vP u1 pl ol W) (hg : W.heap[g8]? = some (.cells cs 68 (0, 0))) (h8 : w.heap.size ≤ g8) (hs : w0.heap.size ≤ w.heap.size) (n2 : gb2 ≠ g8) (n4 : gb4 ≠ g8) (n5 : gb5 ≠ g8) (j : Nat) (u : Value) : Fr gb2 gb4 gb5 g8 b2 b4 b5 w0 w wr vP u1 pl ol (W.setCell ⟨g8, j, none⟩ u) :=
  ⟨Kd.R_set h.op hg (by decide) j u, Kd.R_far (p := ⟨g8, j, none⟩) h.og (fun _ hk => hk.2) u, blk_far (p := ⟨g8, j, none⟩) h.b2 n2 u, blk_far (p := ⟨g8, j, none⟩) h.b4 n4 u, blk_far (p := ⟨g8, j, none⟩) h.b5 n5 u, below_set h.hb (Nat.le_trans hs h8), by rw [heap_size_setCell]; exact h.hz, h.hn.setCell (p := ⟨g8, j, none⟩) h8 u⟩
end
end Go.Proofs.Yteanndgkjoinmaa.X

-- Laid by wip/xprint.py of this session (the kit's print program, with some contracts given by hand). Not trusted: Lean checks it.
namespace Go.Proofs.Yteanndgkjoinmaa.X
open Go.RowKit Go.Proofs.YteanndgkjoinmaaW.PrintWords Go.Proofs.YteanndgkjoinmaaW.PrintLast Go.Proofs.YteanndgkjoinmaaW.PrintMore
attribute [local go_sem] max2_int min2_int max_two min_two max_three min_three max_four min_four
set_option linter.unusedVariables false
set_option linter.unusedSimpArgs false
def impl_within.f (a0 : Int) (a1 : Int) (a2 : Int) : Option (Bool) := if a1 ≤ a0 then (some (decide (a0 ≤ a2))) else (some false)
set_option maxHeartbeats 8000000 in
set_option maxRecDepth 100000 in
theorem impl_within.calls (a0 : Int) (a1 : Int) (a2 : Int) (r : Bool) (w : World) (h : impl_within.f a0 a1 a2 = some r) :
    Calls Try.prog 48 #[.int .i64 a0, .int .i64 a1, .int .i64 a2] w fun e w' => e = .returned (.bool r) ∧ Drawn0 w w' := by
  have H : (if a1 ≤ a0 then (some (decide (a0 ≤ a2))) else (some false)) = some r := h
  clear h
  by_cases c4 : a1 ≤ a0
  · rw [if_pos c4] at H
    have c4b0 : decide (a1 ≤ a0) = true := decide_eq_true c4
    clear c4
    obtain rfl := Option.some.inj H
    go_enter Try.func48, Try.ntmps48
    go_wp2
    go_ret
    exact ⟨by first | rfl | (simp; done) | (simp [*]; done), by repeat (first | exact Drawn0.refl _ | apply Drawn0.step)⟩
  · rw [if_neg c4] at H
    have c4b0 : decide (a1 ≤ a0) = false := decide_eq_false c4
    clear c4
    obtain rfl := Option.some.inj H
    go_enter Try.func48, Try.ntmps48
    go_wp2
    go_ret
    exact ⟨by first | rfl | (simp; done) | (simp [*]; done), by repeat (first | exact Drawn0.refl _ | apply Drawn0.step)⟩
end Go.Proofs.Yteanndgkjoinmaa.X

-- Laid by wip/xprint.py of this session (the kit's print program, with some contracts given by hand). Not trusted: Lean checks it.
namespace Go.Proofs.Yteanndgkjoinmaa.X
open Go.RowKit Go.Proofs.YteanndgkjoinmaaW.PrintWords Go.Proofs.YteanndgkjoinmaaW.PrintLast Go.Proofs.YteanndgkjoinmaaW.PrintMore
attribute [local go_sem] max2_int min2_int max_two min_two max_three min_three max_four min_four
set_option linter.unusedVariables false
set_option linter.unusedSimpArgs false
def impl_Circuit_isGate.f (a0_0 : Int) (l0_1 : List (S68)) (l0_2 : List Int) (a1_0 : Int) (a1_1 : Int) (a1_2 : Int) (a2 : Int) : Option (Bool) := if a1_0 = 0 then ((impl_within.f (wrap64 (a1_1)) 0 (wrap64 ((wrap64 (a0_0)) - 1))).bind fun t103 => (if t103 = true then (some ((wrap64 (a1_2)) == 0)) else (some false))) else (if a1_0 = 1 then (if (wrap64 (a1_1)) = 0 then (some ((wrap64 (a1_2)) == 0)) else (some false)) else ((impl_Gate_isPair.f a1_0 a1_1 a1_2).bind fun t104 => (if t104 = true then ((impl_within.f (wrap64 (a1_1)) 0 (wrap64 (a2 - 1))).bind fun t105 => (if t105 = true then ((impl_within.f (wrap64 (a1_2)) 0 (wrap64 (a2 - 1))).bind fun t106 => (some t106)) else (some false))) else (some false))))
set_option maxHeartbeats 8000000 in
set_option maxRecDepth 100000 in
theorem impl_Circuit_isGate.calls (a0_0 : Int) (A0_1 : Option Addr) (c0_1 : Nat) (l0_1 : List (S68)) (A0_2 : Option Addr) (c0_2 : Nat) (l0_2 : List Int) (a1_0 : Int) (a1_1 : Int) (a1_2 : Int) (a2 : Int) (r : Bool) (w : World) (hr0_1 : Kd.C k68 w A0_1 l0_1.length l0_1) (hc0_1 : l0_1.length ≤ c0_1) (hr0_2 : Kd.C (Kd.int .i16) w A0_2 l0_2.length l0_2) (hc0_2 : l0_2.length ≤ c0_2) (h : impl_Circuit_isGate.f a0_0 l0_1 l0_2 a1_0 a1_1 a1_2 a2 = some r) :
    Calls Try.prog 83 #[.agg #[.int .i8 a0_0, .slice A0_1 l0_1.length c0_1, .slice A0_2 l0_2.length c0_2], .agg #[.int .i8 a1_0, .int .i16 a1_1, .int .i16 a1_2], .int .i64 a2] w fun e w' => e = .returned (.bool r) ∧ Below w.heap.size w w' := by
  have hu30 := Try.underlying30
  have hu68 := Try.underlying68
  have HR0_1 := Aside0.mk hr0_1
  have HC0_1 := Aside0.mk hc0_1
  clear hr0_1 hc0_1
  have HR0_2 := Aside0.mk hr0_2
  have HC0_2 := Aside0.mk hc0_2
  clear hr0_2 hc0_2
  have HB := Aside0.mk (Below.refl w.heap.size w)
  have H : (if a1_0 = 0 then ((impl_within.f (wrap64 (a1_1)) 0 (wrap64 ((wrap64 (a0_0)) - 1))).bind fun t103 => (if t103 = true then (some ((wrap64 (a1_2)) == 0)) else (some false))) else (if a1_0 = 1 then (if (wrap64 (a1_1)) = 0 then (some ((wrap64 (a1_2)) == 0)) else (some false)) else ((impl_Gate_isPair.f a1_0 a1_1 a1_2).bind fun t104 => (if t104 = true then ((impl_within.f (wrap64 (a1_1)) 0 (wrap64 (a2 - 1))).bind fun t105 => (if t105 = true then ((impl_within.f (wrap64 (a1_2)) 0 (wrap64 (a2 - 1))).bind fun t106 => (some t106)) else (some false))) else (some false))))) = some r := h
  clear h
  by_cases c4 : a1_0 = 0
  · rw [if_pos c4] at H
    have c4b0 : (a1_0 == 0) = true := beq_iff_eq.mpr c4
    have c4b1 : (a1_0 != 0) = false := bne_eq_false_iff_eq.mpr c4
    clear c4
    replace H := Option.bind_eq_some_iff.mp H
    obtain ⟨t103, A50, H⟩ := H
    replace H : (if t103 = true then (some ((wrap64 (a1_2)) == 0)) else (some false)) = some r := H
    have A5 := Aside0.mk A50
    clear A50
    by_cases c6 : t103 = true
    · subst c6
      have H1 : (some ((wrap64 (a1_2)) == 0)) = some r := by rw [if_pos rfl] at H; exact H
      clear H
      have H := H1
      clear H1
      obtain rfl := Option.some.inj H
      go_enter Try.func83, Try.ntmps83
      go_wp2_with (first | ((with_reducible refine gate_dst (N := 3) rfl ?_); refine box_event ?hg (N := 3) ?hd (cs := #[.int .i8 a0_0, .slice A0_1 l0_1.length c0_1, .slice A0_2 l0_2.length c0_2]) (t := 30) ?hr ?_; (case hd => rfl); (case hg => rfl); (case hr => first | (go_simp; done) | (go_simp; rfl)); intro gb101 hg w7 hbox hb; have n0_ := Aside0.mk (below_step (by repeat (first | (with_reducible first | exact HB.out | apply below_alloc | apply pw_below_drewN | apply below_drew1) | exact HB.out)) hb); have n1_ := Aside0.mk (hbox); have n2_ := Aside0.mk ((by rw [hg]; exact (below_size (by repeat (first | (with_reducible first | exact HB.out | apply below_alloc | apply pw_below_drewN | apply below_drew1) | exact HB.out))) : w.heap.size ≤ gb101)); have n3_ := Aside0.mk ((by rw [hg]; exact (below_size (by repeat (first | (with_reducible first | exact HB.out | apply below_alloc | apply pw_below_drewN | apply below_drew1) | exact HB.out))) : w.heap.size ≤ gb101)); clear HB; have HB := n0_; have BK101 := n1_; have GW101 := n2_; have GE101 := n3_; clear n0_ n1_ n2_ n3_; clear hb hbox hg) | ((with_reducible refine gate_dst (N := 4) rfl ?_); refine box_event ?hg (N := 4) ?hd (cs := #[.int .i8 a1_0, .int .i16 a1_1, .int .i16 a1_2]) (t := 68) ?hr ?_; (case hd => rfl); (case hg => rfl); (case hr => first | (go_simp; done) | (go_simp; rfl)); intro gb102 hg w8 hbox hb; have n0_ := Aside0.mk (blk_below (g := gb101) (o := .cells #[.int .i8 a0_0, .slice A0_1 l0_1.length c0_1, .slice A0_2 l0_2.length c0_2] 30 (0, 0)) (by (with_reducible repeat (first | refine blk_drewN ?_ _ | refine blk_drew ?_ | refine blk_alloc ?_ _)); exact BK101.out) hb); have n1_ := Aside0.mk (below_step (by repeat (first | (with_reducible first | exact HB.out | apply below_alloc | apply pw_below_drewN | apply below_drew1 | refine below_set ?_ GE101.out) | exact HB.out)) hb); have n2_ := Aside0.mk (hbox); have n3_ := Aside0.mk ((by rw [hg]; exact (below_size (by repeat (first | (with_reducible first | exact HB.out | apply below_alloc | apply pw_below_drewN | apply below_drew1 | refine below_set ?_ GE101.out) | exact HB.out))) : w.heap.size ≤ gb102)); have n4_ := Aside0.mk ((by rw [hg]; exact (below_size (by repeat (first | (with_reducible first | exact HB.out | apply below_alloc | apply pw_below_drewN | apply below_drew1 | refine below_set ?_ GE101.out) | exact HB.out))) : w.heap.size ≤ gb102)); have n5_ := Aside0.mk ((by rw [hg]; exact Nat.ne_of_lt (blk_lt (g := gb101) (o := .cells #[.int .i8 a0_0, .slice A0_1 l0_1.length c0_1, .slice A0_2 l0_2.length c0_2] 30 (0, 0)) (by (with_reducible repeat (first | refine blk_drewN ?_ _ | refine blk_drew ?_ | refine blk_alloc ?_ _)); exact BK101.out)) : gb101 ≠ gb102)); have n6_ := Aside0.mk ((by rw [hg]; exact Nat.ne_of_gt (blk_lt (g := gb101) (o := .cells #[.int .i8 a0_0, .slice A0_1 l0_1.length c0_1, .slice A0_2 l0_2.length c0_2] 30 (0, 0)) (by (with_reducible repeat (first | refine blk_drewN ?_ _ | refine blk_drew ?_ | refine blk_alloc ?_ _)); exact BK101.out)) : gb102 ≠ gb101)); clear BK101; clear HB; have BK101 := n0_; have HB := n1_; have BK102 := n2_; have GW102 := n3_; have GE102 := n4_; have NB101_102 := n5_; have NB102_101 := n6_; clear n0_ n1_ n2_ n3_ n4_ n5_ n6_; clear hb hbox hg; have hnb9 := NB102_101.out; have hnc9 := NB101_102.out; have hcz10_0 : w8.cell? ⟨gb102, 0, none⟩ = some (.int .i8 a1_0) := (blk_cell BK102.out 0).trans rfl; have hcz10_1 : w8.cell? ⟨gb102, 1, none⟩ = some (.int .i16 a1_1) := (blk_cell BK102.out 1).trans rfl; have hcz10_2 : w8.cell? ⟨gb102, 2, none⟩ = some (.int .i16 a1_2) := (blk_cell BK102.out 2).trans rfl; have hfz10_0 := blk_frozen BK102.out 0; have hfz10_1 := blk_frozen BK102.out 1; have hfz10_2 := blk_frozen BK102.out 2; have hcz11_0 : w8.cell? ⟨gb101, 0, none⟩ = some (.int .i8 a0_0) := (blk_cell BK101.out 0).trans rfl; have hcz11_1 : w8.cell? ⟨gb101, 1, none⟩ = some (.slice A0_1 l0_1.length c0_1) := (blk_cell BK101.out 1).trans rfl; have hcz11_2 : w8.cell? ⟨gb101, 2, none⟩ = some (.slice A0_2 l0_2.length c0_2) := (blk_cell BK101.out 2).trans rfl; have hfz11_0 := blk_frozen BK101.out 0; have hfz11_1 := blk_frozen BK101.out 1; have hfz11_2 := blk_frozen BK101.out 2) | (go_at_call 48; (with_reducible refine (impl_within.calls (wrap64 (a1_1)) 0 (wrap64 ((wrap64 (a0_0)) - 1)) true _ A5.out).mono ?_); rintro e w' ⟨rfl, ⟨nd, rfl⟩⟩; (try first | exact ⟨rfl, _, World.drewN_drewN _ _ _⟩ | exact ⟨rfl, _, Eq.trans (World.drewN_drewN _ _ _) (congrArg (World.drewN _) (Nat.add_assoc _ _ _))⟩)))
      repeat (go_quiet (first | ((with_reducible refine gate_dst (N := 3) rfl ?_); refine box_event ?hg (N := 3) ?hd (cs := #[.int .i8 a0_0, .slice A0_1 l0_1.length c0_1, .slice A0_2 l0_2.length c0_2]) (t := 30) ?hr ?_; (case hd => rfl); (case hg => rfl); (case hr => first | (go_simp; done) | (go_simp; rfl)); intro gb101 hg w7 hbox hb; have n0_ := Aside0.mk (below_step (by repeat (first | (with_reducible first | exact HB.out | apply below_alloc | apply pw_below_drewN | apply below_drew1) | exact HB.out)) hb); have n1_ := Aside0.mk (hbox); have n2_ := Aside0.mk ((by rw [hg]; exact (below_size (by repeat (first | (with_reducible first | exact HB.out | apply below_alloc | apply pw_below_drewN | apply below_drew1) | exact HB.out))) : w.heap.size ≤ gb101)); have n3_ := Aside0.mk ((by rw [hg]; exact (below_size (by repeat (first | (with_reducible first | exact HB.out | apply below_alloc | apply pw_below_drewN | apply below_drew1) | exact HB.out))) : w.heap.size ≤ gb101)); clear HB; have HB := n0_; have BK101 := n1_; have GW101 := n2_; have GE101 := n3_; clear n0_ n1_ n2_ n3_; clear hb hbox hg) | ((with_reducible refine gate_dst (N := 4) rfl ?_); refine box_event ?hg (N := 4) ?hd (cs := #[.int .i8 a1_0, .int .i16 a1_1, .int .i16 a1_2]) (t := 68) ?hr ?_; (case hd => rfl); (case hg => rfl); (case hr => first | (go_simp; done) | (go_simp; rfl)); intro gb102 hg w8 hbox hb; have n0_ := Aside0.mk (blk_below (g := gb101) (o := .cells #[.int .i8 a0_0, .slice A0_1 l0_1.length c0_1, .slice A0_2 l0_2.length c0_2] 30 (0, 0)) (by (with_reducible repeat (first | refine blk_drewN ?_ _ | refine blk_drew ?_ | refine blk_alloc ?_ _)); exact BK101.out) hb); have n1_ := Aside0.mk (below_step (by repeat (first | (with_reducible first | exact HB.out | apply below_alloc | apply pw_below_drewN | apply below_drew1 | refine below_set ?_ GE101.out) | exact HB.out)) hb); have n2_ := Aside0.mk (hbox); have n3_ := Aside0.mk ((by rw [hg]; exact (below_size (by repeat (first | (with_reducible first | exact HB.out | apply below_alloc | apply pw_below_drewN | apply below_drew1 | refine below_set ?_ GE101.out) | exact HB.out))) : w.heap.size ≤ gb102)); have n4_ := Aside0.mk ((by rw [hg]; exact (below_size (by repeat (first | (with_reducible first | exact HB.out | apply below_alloc | apply pw_below_drewN | apply below_drew1 | refine below_set ?_ GE101.out) | exact HB.out))) : w.heap.size ≤ gb102)); have n5_ := Aside0.mk ((by rw [hg]; exact Nat.ne_of_lt (blk_lt (g := gb101) (o := .cells #[.int .i8 a0_0, .slice A0_1 l0_1.length c0_1, .slice A0_2 l0_2.length c0_2] 30 (0, 0)) (by (with_reducible repeat (first | refine blk_drewN ?_ _ | refine blk_drew ?_ | refine blk_alloc ?_ _)); exact BK101.out)) : gb101 ≠ gb102)); have n6_ := Aside0.mk ((by rw [hg]; exact Nat.ne_of_gt (blk_lt (g := gb101) (o := .cells #[.int .i8 a0_0, .slice A0_1 l0_1.length c0_1, .slice A0_2 l0_2.length c0_2] 30 (0, 0)) (by (with_reducible repeat (first | refine blk_drewN ?_ _ | refine blk_drew ?_ | refine blk_alloc ?_ _)); exact BK101.out)) : gb102 ≠ gb101)); clear BK101; clear HB; have BK101 := n0_; have HB := n1_; have BK102 := n2_; have GW102 := n3_; have GE102 := n4_; have NB101_102 := n5_; have NB102_101 := n6_; clear n0_ n1_ n2_ n3_ n4_ n5_ n6_; clear hb hbox hg; have hnb9 := NB102_101.out; have hnc9 := NB101_102.out; have hcz10_0 : w8.cell? ⟨gb102, 0, none⟩ = some (.int .i8 a1_0) := (blk_cell BK102.out 0).trans rfl; have hcz10_1 : w8.cell? ⟨gb102, 1, none⟩ = some (.int .i16 a1_1) := (blk_cell BK102.out 1).trans rfl; have hcz10_2 : w8.cell? ⟨gb102, 2, none⟩ = some (.int .i16 a1_2) := (blk_cell BK102.out 2).trans rfl; have hfz10_0 := blk_frozen BK102.out 0; have hfz10_1 := blk_frozen BK102.out 1; have hfz10_2 := blk_frozen BK102.out 2; have hcz11_0 : w8.cell? ⟨gb101, 0, none⟩ = some (.int .i8 a0_0) := (blk_cell BK101.out 0).trans rfl; have hcz11_1 : w8.cell? ⟨gb101, 1, none⟩ = some (.slice A0_1 l0_1.length c0_1) := (blk_cell BK101.out 1).trans rfl; have hcz11_2 : w8.cell? ⟨gb101, 2, none⟩ = some (.slice A0_2 l0_2.length c0_2) := (blk_cell BK101.out 2).trans rfl; have hfz11_0 := blk_frozen BK101.out 0; have hfz11_1 := blk_frozen BK101.out 1; have hfz11_2 := blk_frozen BK101.out 2) | (go_at_call 48; (with_reducible refine (impl_within.calls (wrap64 (a1_1)) 0 (wrap64 ((wrap64 (a0_0)) - 1)) true _ A5.out).mono ?_); rintro e w' ⟨rfl, ⟨nd, rfl⟩⟩; (try first | exact ⟨rfl, _, World.drewN_drewN _ _ _⟩ | exact ⟨rfl, _, Eq.trans (World.drewN_drewN _ _ _) (congrArg (World.drewN _) (Nat.add_assoc _ _ _))⟩))); try go_wp2_with (first | ((with_reducible refine gate_dst (N := 3) rfl ?_); refine box_event ?hg (N := 3) ?hd (cs := #[.int .i8 a0_0, .slice A0_1 l0_1.length c0_1, .slice A0_2 l0_2.length c0_2]) (t := 30) ?hr ?_; (case hd => rfl); (case hg => rfl); (case hr => first | (go_simp; done) | (go_simp; rfl)); intro gb101 hg w7 hbox hb; have n0_ := Aside0.mk (below_step (by repeat (first | (with_reducible first | exact HB.out | apply below_alloc | apply pw_below_drewN | apply below_drew1) | exact HB.out)) hb); have n1_ := Aside0.mk (hbox); have n2_ := Aside0.mk ((by rw [hg]; exact (below_size (by repeat (first | (with_reducible first | exact HB.out | apply below_alloc | apply pw_below_drewN | apply below_drew1) | exact HB.out))) : w.heap.size ≤ gb101)); have n3_ := Aside0.mk ((by rw [hg]; exact (below_size (by repeat (first | (with_reducible first | exact HB.out | apply below_alloc | apply pw_below_drewN | apply below_drew1) | exact HB.out))) : w.heap.size ≤ gb101)); clear HB; have HB := n0_; have BK101 := n1_; have GW101 := n2_; have GE101 := n3_; clear n0_ n1_ n2_ n3_; clear hb hbox hg) | ((with_reducible refine gate_dst (N := 4) rfl ?_); refine box_event ?hg (N := 4) ?hd (cs := #[.int .i8 a1_0, .int .i16 a1_1, .int .i16 a1_2]) (t := 68) ?hr ?_; (case hd => rfl); (case hg => rfl); (case hr => first | (go_simp; done) | (go_simp; rfl)); intro gb102 hg w8 hbox hb; have n0_ := Aside0.mk (blk_below (g := gb101) (o := .cells #[.int .i8 a0_0, .slice A0_1 l0_1.length c0_1, .slice A0_2 l0_2.length c0_2] 30 (0, 0)) (by (with_reducible repeat (first | refine blk_drewN ?_ _ | refine blk_drew ?_ | refine blk_alloc ?_ _)); exact BK101.out) hb); have n1_ := Aside0.mk (below_step (by repeat (first | (with_reducible first | exact HB.out | apply below_alloc | apply pw_below_drewN | apply below_drew1 | refine below_set ?_ GE101.out) | exact HB.out)) hb); have n2_ := Aside0.mk (hbox); have n3_ := Aside0.mk ((by rw [hg]; exact (below_size (by repeat (first | (with_reducible first | exact HB.out | apply below_alloc | apply pw_below_drewN | apply below_drew1 | refine below_set ?_ GE101.out) | exact HB.out))) : w.heap.size ≤ gb102)); have n4_ := Aside0.mk ((by rw [hg]; exact (below_size (by repeat (first | (with_reducible first | exact HB.out | apply below_alloc | apply pw_below_drewN | apply below_drew1 | refine below_set ?_ GE101.out) | exact HB.out))) : w.heap.size ≤ gb102)); have n5_ := Aside0.mk ((by rw [hg]; exact Nat.ne_of_lt (blk_lt (g := gb101) (o := .cells #[.int .i8 a0_0, .slice A0_1 l0_1.length c0_1, .slice A0_2 l0_2.length c0_2] 30 (0, 0)) (by (with_reducible repeat (first | refine blk_drewN ?_ _ | refine blk_drew ?_ | refine blk_alloc ?_ _)); exact BK101.out)) : gb101 ≠ gb102)); have n6_ := Aside0.mk ((by rw [hg]; exact Nat.ne_of_gt (blk_lt (g := gb101) (o := .cells #[.int .i8 a0_0, .slice A0_1 l0_1.length c0_1, .slice A0_2 l0_2.length c0_2] 30 (0, 0)) (by (with_reducible repeat (first | refine blk_drewN ?_ _ | refine blk_drew ?_ | refine blk_alloc ?_ _)); exact BK101.out)) : gb102 ≠ gb101)); clear BK101; clear HB; have BK101 := n0_; have HB := n1_; have BK102 := n2_; have GW102 := n3_; have GE102 := n4_; have NB101_102 := n5_; have NB102_101 := n6_; clear n0_ n1_ n2_ n3_ n4_ n5_ n6_; clear hb hbox hg; have hnb9 := NB102_101.out; have hnc9 := NB101_102.out; have hcz10_0 : w8.cell? ⟨gb102, 0, none⟩ = some (.int .i8 a1_0) := (blk_cell BK102.out 0).trans rfl; have hcz10_1 : w8.cell? ⟨gb102, 1, none⟩ = some (.int .i16 a1_1) := (blk_cell BK102.out 1).trans rfl; have hcz10_2 : w8.cell? ⟨gb102, 2, none⟩ = some (.int .i16 a1_2) := (blk_cell BK102.out 2).trans rfl; have hfz10_0 := blk_frozen BK102.out 0; have hfz10_1 := blk_frozen BK102.out 1; have hfz10_2 := blk_frozen BK102.out 2; have hcz11_0 : w8.cell? ⟨gb101, 0, none⟩ = some (.int .i8 a0_0) := (blk_cell BK101.out 0).trans rfl; have hcz11_1 : w8.cell? ⟨gb101, 1, none⟩ = some (.slice A0_1 l0_1.length c0_1) := (blk_cell BK101.out 1).trans rfl; have hcz11_2 : w8.cell? ⟨gb101, 2, none⟩ = some (.slice A0_2 l0_2.length c0_2) := (blk_cell BK101.out 2).trans rfl; have hfz11_0 := blk_frozen BK101.out 0; have hfz11_1 := blk_frozen BK101.out 1; have hfz11_2 := blk_frozen BK101.out 2) | (go_at_call 48; (with_reducible refine (impl_within.calls (wrap64 (a1_1)) 0 (wrap64 ((wrap64 (a0_0)) - 1)) true _ A5.out).mono ?_); rintro e w' ⟨rfl, ⟨nd, rfl⟩⟩; (try first | exact ⟨rfl, _, World.drewN_drewN _ _ _⟩ | exact ⟨rfl, _, Eq.trans (World.drewN_drewN _ _ _) (congrArg (World.drewN _) (Nat.add_assoc _ _ _))⟩))))
      go_ret
      exact ⟨by first | rfl | (simp [errW_none, errW_some] <;> rfl) | (simp [*, errW_none, errW_some] <;> rfl), by repeat (first | (with_reducible first | exact HB.out | apply below_alloc | apply pw_below_drewN | apply below_drew1 | refine below_set ?_ GE101.out | refine below_set ?_ GE102.out) | exact HB.out)⟩
    · replace c6 := Bool.eq_false_iff.mpr c6
      subst c6
      have H1 : (some false) = some r := by rw [if_neg (show ¬ (false = true) by decide)] at H; exact H
      clear H
      have H := H1
      clear H1
      obtain rfl := Option.some.inj H
      go_enter Try.func83, Try.ntmps83
      go_wp2_with (first | ((with_reducible refine gate_dst (N := 3) rfl ?_); refine box_event ?hg (N := 3) ?hd (cs := #[.int .i8 a0_0, .slice A0_1 l0_1.length c0_1, .slice A0_2 l0_2.length c0_2]) (t := 30) ?hr ?_; (case hd => rfl); (case hg => rfl); (case hr => first | (go_simp; done) | (go_simp; rfl)); intro gb101 hg w12 hbox hb; have n0_ := Aside0.mk (below_step (by repeat (first | (with_reducible first | exact HB.out | apply below_alloc | apply pw_below_drewN | apply below_drew1) | exact HB.out)) hb); have n1_ := Aside0.mk (hbox); have n2_ := Aside0.mk ((by rw [hg]; exact (below_size (by repeat (first | (with_reducible first | exact HB.out | apply below_alloc | apply pw_below_drewN | apply below_drew1) | exact HB.out))) : w.heap.size ≤ gb101)); have n3_ := Aside0.mk ((by rw [hg]; exact (below_size (by repeat (first | (with_reducible first | exact HB.out | apply below_alloc | apply pw_below_drewN | apply below_drew1) | exact HB.out))) : w.heap.size ≤ gb101)); clear HB; have HB := n0_; have BK101 := n1_; have GW101 := n2_; have GE101 := n3_; clear n0_ n1_ n2_ n3_; clear hb hbox hg) | ((with_reducible refine gate_dst (N := 4) rfl ?_); refine box_event ?hg (N := 4) ?hd (cs := #[.int .i8 a1_0, .int .i16 a1_1, .int .i16 a1_2]) (t := 68) ?hr ?_; (case hd => rfl); (case hg => rfl); (case hr => first | (go_simp; done) | (go_simp; rfl)); intro gb102 hg w13 hbox hb; have n0_ := Aside0.mk (blk_below (g := gb101) (o := .cells #[.int .i8 a0_0, .slice A0_1 l0_1.length c0_1, .slice A0_2 l0_2.length c0_2] 30 (0, 0)) (by (with_reducible repeat (first | refine blk_drewN ?_ _ | refine blk_drew ?_ | refine blk_alloc ?_ _)); exact BK101.out) hb); have n1_ := Aside0.mk (below_step (by repeat (first | (with_reducible first | exact HB.out | apply below_alloc | apply pw_below_drewN | apply below_drew1 | refine below_set ?_ GE101.out) | exact HB.out)) hb); have n2_ := Aside0.mk (hbox); have n3_ := Aside0.mk ((by rw [hg]; exact (below_size (by repeat (first | (with_reducible first | exact HB.out | apply below_alloc | apply pw_below_drewN | apply below_drew1 | refine below_set ?_ GE101.out) | exact HB.out))) : w.heap.size ≤ gb102)); have n4_ := Aside0.mk ((by rw [hg]; exact (below_size (by repeat (first | (with_reducible first | exact HB.out | apply below_alloc | apply pw_below_drewN | apply below_drew1 | refine below_set ?_ GE101.out) | exact HB.out))) : w.heap.size ≤ gb102)); have n5_ := Aside0.mk ((by rw [hg]; exact Nat.ne_of_lt (blk_lt (g := gb101) (o := .cells #[.int .i8 a0_0, .slice A0_1 l0_1.length c0_1, .slice A0_2 l0_2.length c0_2] 30 (0, 0)) (by (with_reducible repeat (first | refine blk_drewN ?_ _ | refine blk_drew ?_ | refine blk_alloc ?_ _)); exact BK101.out)) : gb101 ≠ gb102)); have n6_ := Aside0.mk ((by rw [hg]; exact Nat.ne_of_gt (blk_lt (g := gb101) (o := .cells #[.int .i8 a0_0, .slice A0_1 l0_1.length c0_1, .slice A0_2 l0_2.length c0_2] 30 (0, 0)) (by (with_reducible repeat (first | refine blk_drewN ?_ _ | refine blk_drew ?_ | refine blk_alloc ?_ _)); exact BK101.out)) : gb102 ≠ gb101)); clear BK101; clear HB; have BK101 := n0_; have HB := n1_; have BK102 := n2_; have GW102 := n3_; have GE102 := n4_; have NB101_102 := n5_; have NB102_101 := n6_; clear n0_ n1_ n2_ n3_ n4_ n5_ n6_; clear hb hbox hg; have hnb14 := NB102_101.out; have hnc14 := NB101_102.out; have hcz15_0 : w13.cell? ⟨gb102, 0, none⟩ = some (.int .i8 a1_0) := (blk_cell BK102.out 0).trans rfl; have hcz15_1 : w13.cell? ⟨gb102, 1, none⟩ = some (.int .i16 a1_1) := (blk_cell BK102.out 1).trans rfl; have hcz15_2 : w13.cell? ⟨gb102, 2, none⟩ = some (.int .i16 a1_2) := (blk_cell BK102.out 2).trans rfl; have hfz15_0 := blk_frozen BK102.out 0; have hfz15_1 := blk_frozen BK102.out 1; have hfz15_2 := blk_frozen BK102.out 2; have hcz16_0 : w13.cell? ⟨gb101, 0, none⟩ = some (.int .i8 a0_0) := (blk_cell BK101.out 0).trans rfl; have hcz16_1 : w13.cell? ⟨gb101, 1, none⟩ = some (.slice A0_1 l0_1.length c0_1) := (blk_cell BK101.out 1).trans rfl; have hcz16_2 : w13.cell? ⟨gb101, 2, none⟩ = some (.slice A0_2 l0_2.length c0_2) := (blk_cell BK101.out 2).trans rfl; have hfz16_0 := blk_frozen BK101.out 0; have hfz16_1 := blk_frozen BK101.out 1; have hfz16_2 := blk_frozen BK101.out 2) | (go_at_call 48; (with_reducible refine (impl_within.calls (wrap64 (a1_1)) 0 (wrap64 ((wrap64 (a0_0)) - 1)) false _ A5.out).mono ?_); rintro e w' ⟨rfl, ⟨nd, rfl⟩⟩; (try first | exact ⟨rfl, _, World.drewN_drewN _ _ _⟩ | exact ⟨rfl, _, Eq.trans (World.drewN_drewN _ _ _) (congrArg (World.drewN _) (Nat.add_assoc _ _ _))⟩)))
      repeat (go_quiet (first | ((with_reducible refine gate_dst (N := 3) rfl ?_); refine box_event ?hg (N := 3) ?hd (cs := #[.int .i8 a0_0, .slice A0_1 l0_1.length c0_1, .slice A0_2 l0_2.length c0_2]) (t := 30) ?hr ?_; (case hd => rfl); (case hg => rfl); (case hr => first | (go_simp; done) | (go_simp; rfl)); intro gb101 hg w12 hbox hb; have n0_ := Aside0.mk (below_step (by repeat (first | (with_reducible first | exact HB.out | apply below_alloc | apply pw_below_drewN | apply below_drew1) | exact HB.out)) hb); have n1_ := Aside0.mk (hbox); have n2_ := Aside0.mk ((by rw [hg]; exact (below_size (by repeat (first | (with_reducible first | exact HB.out | apply below_alloc | apply pw_below_drewN | apply below_drew1) | exact HB.out))) : w.heap.size ≤ gb101)); have n3_ := Aside0.mk ((by rw [hg]; exact (below_size (by repeat (first | (with_reducible first | exact HB.out | apply below_alloc | apply pw_below_drewN | apply below_drew1) | exact HB.out))) : w.heap.size ≤ gb101)); clear HB; have HB := n0_; have BK101 := n1_; have GW101 := n2_; have GE101 := n3_; clear n0_ n1_ n2_ n3_; clear hb hbox hg) | ((with_reducible refine gate_dst (N := 4) rfl ?_); refine box_event ?hg (N := 4) ?hd (cs := #[.int .i8 a1_0, .int .i16 a1_1, .int .i16 a1_2]) (t := 68) ?hr ?_; (case hd => rfl); (case hg => rfl); (case hr => first | (go_simp; done) | (go_simp; rfl)); intro gb102 hg w13 hbox hb; have n0_ := Aside0.mk (blk_below (g := gb101) (o := .cells #[.int .i8 a0_0, .slice A0_1 l0_1.length c0_1, .slice A0_2 l0_2.length c0_2] 30 (0, 0)) (by (with_reducible repeat (first | refine blk_drewN ?_ _ | refine blk_drew ?_ | refine blk_alloc ?_ _)); exact BK101.out) hb); have n1_ := Aside0.mk (below_step (by repeat (first | (with_reducible first | exact HB.out | apply below_alloc | apply pw_below_drewN | apply below_drew1 | refine below_set ?_ GE101.out) | exact HB.out)) hb); have n2_ := Aside0.mk (hbox); have n3_ := Aside0.mk ((by rw [hg]; exact (below_size (by repeat (first | (with_reducible first | exact HB.out | apply below_alloc | apply pw_below_drewN | apply below_drew1 | refine below_set ?_ GE101.out) | exact HB.out))) : w.heap.size ≤ gb102)); have n4_ := Aside0.mk ((by rw [hg]; exact (below_size (by repeat (first | (with_reducible first | exact HB.out | apply below_alloc | apply pw_below_drewN | apply below_drew1 | refine below_set ?_ GE101.out) | exact HB.out))) : w.heap.size ≤ gb102)); have n5_ := Aside0.mk ((by rw [hg]; exact Nat.ne_of_lt (blk_lt (g := gb101) (o := .cells #[.int .i8 a0_0, .slice A0_1 l0_1.length c0_1, .slice A0_2 l0_2.length c0_2] 30 (0, 0)) (by (with_reducible repeat (first | refine blk_drewN ?_ _ | refine blk_drew ?_ | refine blk_alloc ?_ _)); exact BK101.out)) : gb101 ≠ gb102)); have n6_ := Aside0.mk ((by rw [hg]; exact Nat.ne_of_gt (blk_lt (g := gb101) (o := .cells #[.int .i8 a0_0, .slice A0_1 l0_1.length c0_1, .slice A0_2 l0_2.length c0_2] 30 (0, 0)) (by (with_reducible repeat (first | refine blk_drewN ?_ _ | refine blk_drew ?_ | refine blk_alloc ?_ _)); exact BK101.out)) : gb102 ≠ gb101)); clear BK101; clear HB; have BK101 := n0_; have HB := n1_; have BK102 := n2_; have GW102 := n3_; have GE102 := n4_; have NB101_102 := n5_; have NB102_101 := n6_; clear n0_ n1_ n2_ n3_ n4_ n5_ n6_; clear hb hbox hg; have hnb14 := NB102_101.out; have hnc14 := NB101_102.out; have hcz15_0 : w13.cell? ⟨gb102, 0, none⟩ = some (.int .i8 a1_0) := (blk_cell BK102.out 0).trans rfl; have hcz15_1 : w13.cell? ⟨gb102, 1, none⟩ = some (.int .i16 a1_1) := (blk_cell BK102.out 1).trans rfl; have hcz15_2 : w13.cell? ⟨gb102, 2, none⟩ = some (.int .i16 a1_2) := (blk_cell BK102.out 2).trans rfl; have hfz15_0 := blk_frozen BK102.out 0; have hfz15_1 := blk_frozen BK102.out 1; have hfz15_2 := blk_frozen BK102.out 2; have hcz16_0 : w13.cell? ⟨gb101, 0, none⟩ = some (.int .i8 a0_0) := (blk_cell BK101.out 0).trans rfl; have hcz16_1 : w13.cell? ⟨gb101, 1, none⟩ = some (.slice A0_1 l0_1.length c0_1) := (blk_cell BK101.out 1).trans rfl; have hcz16_2 : w13.cell? ⟨gb101, 2, none⟩ = some (.slice A0_2 l0_2.length c0_2) := (blk_cell BK101.out 2).trans rfl; have hfz16_0 := blk_frozen BK101.out 0; have hfz16_1 := blk_frozen BK101.out 1; have hfz16_2 := blk_frozen BK101.out 2) | (go_at_call 48; (with_reducible refine (impl_within.calls (wrap64 (a1_1)) 0 (wrap64 ((wrap64 (a0_0)) - 1)) false _ A5.out).mono ?_); rintro e w' ⟨rfl, ⟨nd, rfl⟩⟩; (try first | exact ⟨rfl, _, World.drewN_drewN _ _ _⟩ | exact ⟨rfl, _, Eq.trans (World.drewN_drewN _ _ _) (congrArg (World.drewN _) (Nat.add_assoc _ _ _))⟩))); try go_wp2_with (first | ((with_reducible refine gate_dst (N := 3) rfl ?_); refine box_event ?hg (N := 3) ?hd (cs := #[.int .i8 a0_0, .slice A0_1 l0_1.length c0_1, .slice A0_2 l0_2.length c0_2]) (t := 30) ?hr ?_; (case hd => rfl); (case hg => rfl); (case hr => first | (go_simp; done) | (go_simp; rfl)); intro gb101 hg w12 hbox hb; have n0_ := Aside0.mk (below_step (by repeat (first | (with_reducible first | exact HB.out | apply below_alloc | apply pw_below_drewN | apply below_drew1) | exact HB.out)) hb); have n1_ := Aside0.mk (hbox); have n2_ := Aside0.mk ((by rw [hg]; exact (below_size (by repeat (first | (with_reducible first | exact HB.out | apply below_alloc | apply pw_below_drewN | apply below_drew1) | exact HB.out))) : w.heap.size ≤ gb101)); have n3_ := Aside0.mk ((by rw [hg]; exact (below_size (by repeat (first | (with_reducible first | exact HB.out | apply below_alloc | apply pw_below_drewN | apply below_drew1) | exact HB.out))) : w.heap.size ≤ gb101)); clear HB; have HB := n0_; have BK101 := n1_; have GW101 := n2_; have GE101 := n3_; clear n0_ n1_ n2_ n3_; clear hb hbox hg) | ((with_reducible refine gate_dst (N := 4) rfl ?_); refine box_event ?hg (N := 4) ?hd (cs := #[.int .i8 a1_0, .int .i16 a1_1, .int .i16 a1_2]) (t := 68) ?hr ?_; (case hd => rfl); (case hg => rfl); (case hr => first | (go_simp; done) | (go_simp; rfl)); intro gb102 hg w13 hbox hb; have n0_ := Aside0.mk (blk_below (g := gb101) (o := .cells #[.int .i8 a0_0, .slice A0_1 l0_1.length c0_1, .slice A0_2 l0_2.length c0_2] 30 (0, 0)) (by (with_reducible repeat (first | refine blk_drewN ?_ _ | refine blk_drew ?_ | refine blk_alloc ?_ _)); exact BK101.out) hb); have n1_ := Aside0.mk (below_step (by repeat (first | (with_reducible first | exact HB.out | apply below_alloc | apply pw_below_drewN | apply below_drew1 | refine below_set ?_ GE101.out) | exact HB.out)) hb); have n2_ := Aside0.mk (hbox); have n3_ := Aside0.mk ((by rw [hg]; exact (below_size (by repeat (first | (with_reducible first | exact HB.out | apply below_alloc | apply pw_below_drewN | apply below_drew1 | refine below_set ?_ GE101.out) | exact HB.out))) : w.heap.size ≤ gb102)); have n4_ := Aside0.mk ((by rw [hg]; exact (below_size (by repeat (first | (with_reducible first | exact HB.out | apply below_alloc | apply pw_below_drewN | apply below_drew1 | refine below_set ?_ GE101.out) | exact HB.out))) : w.heap.size ≤ gb102)); have n5_ := Aside0.mk ((by rw [hg]; exact Nat.ne_of_lt (blk_lt (g := gb101) (o := .cells #[.int .i8 a0_0, .slice A0_1 l0_1.length c0_1, .slice A0_2 l0_2.length c0_2] 30 (0, 0)) (by (with_reducible repeat (first | refine blk_drewN ?_ _ | refine blk_drew ?_ | refine blk_alloc ?_ _)); exact BK101.out)) : gb101 ≠ gb102)); have n6_ := Aside0.mk ((by rw [hg]; exact Nat.ne_of_gt (blk_lt (g := gb101) (o := .cells #[.int .i8 a0_0, .slice A0_1 l0_1.length c0_1, .slice A0_2 l0_2.length c0_2] 30 (0, 0)) (by (with_reducible repeat (first | refine blk_drewN ?_ _ | refine blk_drew ?_ | refine blk_alloc ?_ _)); exact BK101.out)) : gb102 ≠ gb101)); clear BK101; clear HB; have BK101 := n0_; have HB := n1_; have BK102 := n2_; have GW102 := n3_; have GE102 := n4_; have NB101_102 := n5_; have NB102_101 := n6_; clear n0_ n1_ n2_ n3_ n4_ n5_ n6_; clear hb hbox hg; have hnb14 := NB102_101.out; have hnc14 := NB101_102.out; have hcz15_0 : w13.cell? ⟨gb102, 0, none⟩ = some (.int .i8 a1_0) := (blk_cell BK102.out 0).trans rfl; have hcz15_1 : w13.cell? ⟨gb102, 1, none⟩ = some (.int .i16 a1_1) := (blk_cell BK102.out 1).trans rfl; have hcz15_2 : w13.cell? ⟨gb102, 2, none⟩ = some (.int .i16 a1_2) := (blk_cell BK102.out 2).trans rfl; have hfz15_0 := blk_frozen BK102.out 0; have hfz15_1 := blk_frozen BK102.out 1; have hfz15_2 := blk_frozen BK102.out 2; have hcz16_0 : w13.cell? ⟨gb101, 0, none⟩ = some (.int .i8 a0_0) := (blk_cell BK101.out 0).trans rfl; have hcz16_1 : w13.cell? ⟨gb101, 1, none⟩ = some (.slice A0_1 l0_1.length c0_1) := (blk_cell BK101.out 1).trans rfl; have hcz16_2 : w13.cell? ⟨gb101, 2, none⟩ = some (.slice A0_2 l0_2.length c0_2) := (blk_cell BK101.out 2).trans rfl; have hfz16_0 := blk_frozen BK101.out 0; have hfz16_1 := blk_frozen BK101.out 1; have hfz16_2 := blk_frozen BK101.out 2) | (go_at_call 48; (with_reducible refine (impl_within.calls (wrap64 (a1_1)) 0 (wrap64 ((wrap64 (a0_0)) - 1)) false _ A5.out).mono ?_); rintro e w' ⟨rfl, ⟨nd, rfl⟩⟩; (try first | exact ⟨rfl, _, World.drewN_drewN _ _ _⟩ | exact ⟨rfl, _, Eq.trans (World.drewN_drewN _ _ _) (congrArg (World.drewN _) (Nat.add_assoc _ _ _))⟩))))
      go_ret
      exact ⟨by first | rfl | (simp [errW_none, errW_some] <;> rfl) | (simp [*, errW_none, errW_some] <;> rfl), by repeat (first | (with_reducible first | exact HB.out | apply below_alloc | apply pw_below_drewN | apply below_drew1 | refine below_set ?_ GE101.out | refine below_set ?_ GE102.out) | exact HB.out)⟩
  · rw [if_neg c4] at H
    have c4b0 : (a1_0 == 0) = false := beq_eq_false_iff_ne.mpr c4
    have c4b1 : (a1_0 != 0) = true := bne_iff_ne.mpr c4
    by_cases c17 : a1_0 = 1
    · rw [if_pos c17] at H
      have c17b0 : (a1_0 == 1) = true := beq_iff_eq.mpr c17
      have c17b1 : (a1_0 != 1) = false := bne_eq_false_iff_eq.mpr c17
      clear c17
      by_cases c18 : (wrap64 (a1_1)) = 0
      · rw [if_pos c18] at H
        have c18b0 : ((wrap64 (a1_1)) == 0) = true := beq_iff_eq.mpr c18
        have c18b1 : ((wrap64 (a1_1)) != 0) = false := bne_eq_false_iff_eq.mpr c18
        clear c18
        obtain rfl := Option.some.inj H
        go_enter Try.func83, Try.ntmps83
        go_wp2_with (first | ((with_reducible refine gate_dst (N := 3) rfl ?_); refine box_event ?hg (N := 3) ?hd (cs := #[.int .i8 a0_0, .slice A0_1 l0_1.length c0_1, .slice A0_2 l0_2.length c0_2]) (t := 30) ?hr ?_; (case hd => rfl); (case hg => rfl); (case hr => first | (go_simp; done) | (go_simp; rfl)); intro gb101 hg w19 hbox hb; have n0_ := Aside0.mk (below_step (by repeat (first | (with_reducible first | exact HB.out | apply below_alloc | apply pw_below_drewN | apply below_drew1) | exact HB.out)) hb); have n1_ := Aside0.mk (hbox); have n2_ := Aside0.mk ((by rw [hg]; exact (below_size (by repeat (first | (with_reducible first | exact HB.out | apply below_alloc | apply pw_below_drewN | apply below_drew1) | exact HB.out))) : w.heap.size ≤ gb101)); have n3_ := Aside0.mk ((by rw [hg]; exact (below_size (by repeat (first | (with_reducible first | exact HB.out | apply below_alloc | apply pw_below_drewN | apply below_drew1) | exact HB.out))) : w.heap.size ≤ gb101)); clear HB; have HB := n0_; have BK101 := n1_; have GW101 := n2_; have GE101 := n3_; clear n0_ n1_ n2_ n3_; clear hb hbox hg) | ((with_reducible refine gate_dst (N := 4) rfl ?_); refine box_event ?hg (N := 4) ?hd (cs := #[.int .i8 a1_0, .int .i16 a1_1, .int .i16 a1_2]) (t := 68) ?hr ?_; (case hd => rfl); (case hg => rfl); (case hr => first | (go_simp; done) | (go_simp; rfl)); intro gb102 hg w20 hbox hb; have n0_ := Aside0.mk (blk_below (g := gb101) (o := .cells #[.int .i8 a0_0, .slice A0_1 l0_1.length c0_1, .slice A0_2 l0_2.length c0_2] 30 (0, 0)) (by (with_reducible repeat (first | refine blk_drewN ?_ _ | refine blk_drew ?_ | refine blk_alloc ?_ _)); exact BK101.out) hb); have n1_ := Aside0.mk (below_step (by repeat (first | (with_reducible first | exact HB.out | apply below_alloc | apply pw_below_drewN | apply below_drew1 | refine below_set ?_ GE101.out) | exact HB.out)) hb); have n2_ := Aside0.mk (hbox); have n3_ := Aside0.mk ((by rw [hg]; exact (below_size (by repeat (first | (with_reducible first | exact HB.out | apply below_alloc | apply pw_below_drewN | apply below_drew1 | refine below_set ?_ GE101.out) | exact HB.out))) : w.heap.size ≤ gb102)); have n4_ := Aside0.mk ((by rw [hg]; exact (below_size (by repeat (first | (with_reducible first | exact HB.out | apply below_alloc | apply pw_below_drewN | apply below_drew1 | refine below_set ?_ GE101.out) | exact HB.out))) : w.heap.size ≤ gb102)); have n5_ := Aside0.mk ((by rw [hg]; exact Nat.ne_of_lt (blk_lt (g := gb101) (o := .cells #[.int .i8 a0_0, .slice A0_1 l0_1.length c0_1, .slice A0_2 l0_2.length c0_2] 30 (0, 0)) (by (with_reducible repeat (first | refine blk_drewN ?_ _ | refine blk_drew ?_ | refine blk_alloc ?_ _)); exact BK101.out)) : gb101 ≠ gb102)); have n6_ := Aside0.mk ((by rw [hg]; exact Nat.ne_of_gt (blk_lt (g := gb101) (o := .cells #[.int .i8 a0_0, .slice A0_1 l0_1.length c0_1, .slice A0_2 l0_2.length c0_2] 30 (0, 0)) (by (with_reducible repeat (first | refine blk_drewN ?_ _ | refine blk_drew ?_ | refine blk_alloc ?_ _)); exact BK101.out)) : gb102 ≠ gb101)); clear BK101; clear HB; have BK101 := n0_; have HB := n1_; have BK102 := n2_; have GW102 := n3_; have GE102 := n4_; have NB101_102 := n5_; have NB102_101 := n6_; clear n0_ n1_ n2_ n3_ n4_ n5_ n6_; clear hb hbox hg; have hnb21 := NB102_101.out; have hnc21 := NB101_102.out; have hcz22_0 : w20.cell? ⟨gb102, 0, none⟩ = some (.int .i8 a1_0) := (blk_cell BK102.out 0).trans rfl; have hcz22_1 : w20.cell? ⟨gb102, 1, none⟩ = some (.int .i16 a1_1) := (blk_cell BK102.out 1).trans rfl; have hcz22_2 : w20.cell? ⟨gb102, 2, none⟩ = some (.int .i16 a1_2) := (blk_cell BK102.out 2).trans rfl; have hfz22_0 := blk_frozen BK102.out 0; have hfz22_1 := blk_frozen BK102.out 1; have hfz22_2 := blk_frozen BK102.out 2))
        repeat (go_quiet (first | ((with_reducible refine gate_dst (N := 3) rfl ?_); refine box_event ?hg (N := 3) ?hd (cs := #[.int .i8 a0_0, .slice A0_1 l0_1.length c0_1, .slice A0_2 l0_2.length c0_2]) (t := 30) ?hr ?_; (case hd => rfl); (case hg => rfl); (case hr => first | (go_simp; done) | (go_simp; rfl)); intro gb101 hg w19 hbox hb; have n0_ := Aside0.mk (below_step (by repeat (first | (with_reducible first | exact HB.out | apply below_alloc | apply pw_below_drewN | apply below_drew1) | exact HB.out)) hb); have n1_ := Aside0.mk (hbox); have n2_ := Aside0.mk ((by rw [hg]; exact (below_size (by repeat (first | (with_reducible first | exact HB.out | apply below_alloc | apply pw_below_drewN | apply below_drew1) | exact HB.out))) : w.heap.size ≤ gb101)); have n3_ := Aside0.mk ((by rw [hg]; exact (below_size (by repeat (first | (with_reducible first | exact HB.out | apply below_alloc | apply pw_below_drewN | apply below_drew1) | exact HB.out))) : w.heap.size ≤ gb101)); clear HB; have HB := n0_; have BK101 := n1_; have GW101 := n2_; have GE101 := n3_; clear n0_ n1_ n2_ n3_; clear hb hbox hg) | ((with_reducible refine gate_dst (N := 4) rfl ?_); refine box_event ?hg (N := 4) ?hd (cs := #[.int .i8 a1_0, .int .i16 a1_1, .int .i16 a1_2]) (t := 68) ?hr ?_; (case hd => rfl); (case hg => rfl); (case hr => first | (go_simp; done) | (go_simp; rfl)); intro gb102 hg w20 hbox hb; have n0_ := Aside0.mk (blk_below (g := gb101) (o := .cells #[.int .i8 a0_0, .slice A0_1 l0_1.length c0_1, .slice A0_2 l0_2.length c0_2] 30 (0, 0)) (by (with_reducible repeat (first | refine blk_drewN ?_ _ | refine blk_drew ?_ | refine blk_alloc ?_ _)); exact BK101.out) hb); have n1_ := Aside0.mk (below_step (by repeat (first | (with_reducible first | exact HB.out | apply below_alloc | apply pw_below_drewN | apply below_drew1 | refine below_set ?_ GE101.out) | exact HB.out)) hb); have n2_ := Aside0.mk (hbox); have n3_ := Aside0.mk ((by rw [hg]; exact (below_size (by repeat (first | (with_reducible first | exact HB.out | apply below_alloc | apply pw_below_drewN | apply below_drew1 | refine below_set ?_ GE101.out) | exact HB.out))) : w.heap.size ≤ gb102)); have n4_ := Aside0.mk ((by rw [hg]; exact (below_size (by repeat (first | (with_reducible first | exact HB.out | apply below_alloc | apply pw_below_drewN | apply below_drew1 | refine below_set ?_ GE101.out) | exact HB.out))) : w.heap.size ≤ gb102)); have n5_ := Aside0.mk ((by rw [hg]; exact Nat.ne_of_lt (blk_lt (g := gb101) (o := .cells #[.int .i8 a0_0, .slice A0_1 l0_1.length c0_1, .slice A0_2 l0_2.length c0_2] 30 (0, 0)) (by (with_reducible repeat (first | refine blk_drewN ?_ _ | refine blk_drew ?_ | refine blk_alloc ?_ _)); exact BK101.out)) : gb101 ≠ gb102)); have n6_ := Aside0.mk ((by rw [hg]; exact Nat.ne_of_gt (blk_lt (g := gb101) (o := .cells #[.int .i8 a0_0, .slice A0_1 l0_1.length c0_1, .slice A0_2 l0_2.length c0_2] 30 (0, 0)) (by (with_reducible repeat (first | refine blk_drewN ?_ _ | refine blk_drew ?_ | refine blk_alloc ?_ _)); exact BK101.out)) : gb102 ≠ gb101)); clear BK101; clear HB; have BK101 := n0_; have HB := n1_; have BK102 := n2_; have GW102 := n3_; have GE102 := n4_; have NB101_102 := n5_; have NB102_101 := n6_; clear n0_ n1_ n2_ n3_ n4_ n5_ n6_; clear hb hbox hg; have hnb21 := NB102_101.out; have hnc21 := NB101_102.out; have hcz22_0 : w20.cell? ⟨gb102, 0, none⟩ = some (.int .i8 a1_0) := (blk_cell BK102.out 0).trans rfl; have hcz22_1 : w20.cell? ⟨gb102, 1, none⟩ = some (.int .i16 a1_1) := (blk_cell BK102.out 1).trans rfl; have hcz22_2 : w20.cell? ⟨gb102, 2, none⟩ = some (.int .i16 a1_2) := (blk_cell BK102.out 2).trans rfl; have hfz22_0 := blk_frozen BK102.out 0; have hfz22_1 := blk_frozen BK102.out 1; have hfz22_2 := blk_frozen BK102.out 2)); try go_wp2_with (first | ((with_reducible refine gate_dst (N := 3) rfl ?_); refine box_event ?hg (N := 3) ?hd (cs := #[.int .i8 a0_0, .slice A0_1 l0_1.length c0_1, .slice A0_2 l0_2.length c0_2]) (t := 30) ?hr ?_; (case hd => rfl); (case hg => rfl); (case hr => first | (go_simp; done) | (go_simp; rfl)); intro gb101 hg w19 hbox hb; have n0_ := Aside0.mk (below_step (by repeat (first | (with_reducible first | exact HB.out | apply below_alloc | apply pw_below_drewN | apply below_drew1) | exact HB.out)) hb); have n1_ := Aside0.mk (hbox); have n2_ := Aside0.mk ((by rw [hg]; exact (below_size (by repeat (first | (with_reducible first | exact HB.out | apply below_alloc | apply pw_below_drewN | apply below_drew1) | exact HB.out))) : w.heap.size ≤ gb101)); have n3_ := Aside0.mk ((by rw [hg]; exact (below_size (by repeat (first | (with_reducible first | exact HB.out | apply below_alloc | apply pw_below_drewN | apply below_drew1) | exact HB.out))) : w.heap.size ≤ gb101)); clear HB; have HB := n0_; have BK101 := n1_; have GW101 := n2_; have GE101 := n3_; clear n0_ n1_ n2_ n3_; clear hb hbox hg) | ((with_reducible refine gate_dst (N := 4) rfl ?_); refine box_event ?hg (N := 4) ?hd (cs := #[.int .i8 a1_0, .int .i16 a1_1, .int .i16 a1_2]) (t := 68) ?hr ?_; (case hd => rfl); (case hg => rfl); (case hr => first | (go_simp; done) | (go_simp; rfl)); intro gb102 hg w20 hbox hb; have n0_ := Aside0.mk (blk_below (g := gb101) (o := .cells #[.int .i8 a0_0, .slice A0_1 l0_1.length c0_1, .slice A0_2 l0_2.length c0_2] 30 (0, 0)) (by (with_reducible repeat (first | refine blk_drewN ?_ _ | refine blk_drew ?_ | refine blk_alloc ?_ _)); exact BK101.out) hb); have n1_ := Aside0.mk (below_step (by repeat (first | (with_reducible first | exact HB.out | apply below_alloc | apply pw_below_drewN | apply below_drew1 | refine below_set ?_ GE101.out) | exact HB.out)) hb); have n2_ := Aside0.mk (hbox); have n3_ := Aside0.mk ((by rw [hg]; exact (below_size (by repeat (first | (with_reducible first | exact HB.out | apply below_alloc | apply pw_below_drewN | apply below_drew1 | refine below_set ?_ GE101.out) | exact HB.out))) : w.heap.size ≤ gb102)); have n4_ := Aside0.mk ((by rw [hg]; exact (below_size (by repeat (first | (with_reducible first | exact HB.out | apply below_alloc | apply pw_below_drewN | apply below_drew1 | refine below_set ?_ GE101.out) | exact HB.out))) : w.heap.size ≤ gb102)); have n5_ := Aside0.mk ((by rw [hg]; exact Nat.ne_of_lt (blk_lt (g := gb101) (o := .cells #[.int .i8 a0_0, .slice A0_1 l0_1.length c0_1, .slice A0_2 l0_2.length c0_2] 30 (0, 0)) (by (with_reducible repeat (first | refine blk_drewN ?_ _ | refine blk_drew ?_ | refine blk_alloc ?_ _)); exact BK101.out)) : gb101 ≠ gb102)); have n6_ := Aside0.mk ((by rw [hg]; exact Nat.ne_of_gt (blk_lt (g := gb101) (o := .cells #[.int .i8 a0_0, .slice A0_1 l0_1.length c0_1, .slice A0_2 l0_2.length c0_2] 30 (0, 0)) (by (with_reducible repeat (first | refine blk_drewN ?_ _ | refine blk_drew ?_ | refine blk_alloc ?_ _)); exact BK101.out)) : gb102 ≠ gb101)); clear BK101; clear HB; have BK101 := n0_; have HB := n1_; have BK102 := n2_; have GW102 := n3_; have GE102 := n4_; have NB101_102 := n5_; have NB102_101 := n6_; clear n0_ n1_ n2_ n3_ n4_ n5_ n6_; clear hb hbox hg; have hnb21 := NB102_101.out; have hnc21 := NB101_102.out; have hcz22_0 : w20.cell? ⟨gb102, 0, none⟩ = some (.int .i8 a1_0) := (blk_cell BK102.out 0).trans rfl; have hcz22_1 : w20.cell? ⟨gb102, 1, none⟩ = some (.int .i16 a1_1) := (blk_cell BK102.out 1).trans rfl; have hcz22_2 : w20.cell? ⟨gb102, 2, none⟩ = some (.int .i16 a1_2) := (blk_cell BK102.out 2).trans rfl; have hfz22_0 := blk_frozen BK102.out 0; have hfz22_1 := blk_frozen BK102.out 1; have hfz22_2 := blk_frozen BK102.out 2)))
        go_ret
        exact ⟨by first | rfl | (simp [errW_none, errW_some] <;> rfl) | (simp [*, errW_none, errW_some] <;> rfl), by repeat (first | (with_reducible first | exact HB.out | apply below_alloc | apply pw_below_drewN | apply below_drew1 | refine below_set ?_ GE101.out | refine below_set ?_ GE102.out) | exact HB.out)⟩
      · rw [if_neg c18] at H
        have c18b0 : ((wrap64 (a1_1)) == 0) = false := beq_eq_false_iff_ne.mpr c18
        have c18b1 : ((wrap64 (a1_1)) != 0) = true := bne_iff_ne.mpr c18
        obtain rfl := Option.some.inj H
        go_enter Try.func83, Try.ntmps83
        go_wp2_with (first | ((with_reducible refine gate_dst (N := 3) rfl ?_); refine box_event ?hg (N := 3) ?hd (cs := #[.int .i8 a0_0, .slice A0_1 l0_1.length c0_1, .slice A0_2 l0_2.length c0_2]) (t := 30) ?hr ?_; (case hd => rfl); (case hg => rfl); (case hr => first | (go_simp; done) | (go_simp; rfl)); intro gb101 hg w23 hbox hb; have n0_ := Aside0.mk (below_step (by repeat (first | (with_reducible first | exact HB.out | apply below_alloc | apply pw_below_drewN | apply below_drew1) | exact HB.out)) hb); have n1_ := Aside0.mk (hbox); have n2_ := Aside0.mk ((by rw [hg]; exact (below_size (by repeat (first | (with_reducible first | exact HB.out | apply below_alloc | apply pw_below_drewN | apply below_drew1) | exact HB.out))) : w.heap.size ≤ gb101)); have n3_ := Aside0.mk ((by rw [hg]; exact (below_size (by repeat (first | (with_reducible first | exact HB.out | apply below_alloc | apply pw_below_drewN | apply below_drew1) | exact HB.out))) : w.heap.size ≤ gb101)); clear HB; have HB := n0_; have BK101 := n1_; have GW101 := n2_; have GE101 := n3_; clear n0_ n1_ n2_ n3_; clear hb hbox hg) | ((with_reducible refine gate_dst (N := 4) rfl ?_); refine box_event ?hg (N := 4) ?hd (cs := #[.int .i8 a1_0, .int .i16 a1_1, .int .i16 a1_2]) (t := 68) ?hr ?_; (case hd => rfl); (case hg => rfl); (case hr => first | (go_simp; done) | (go_simp; rfl)); intro gb102 hg w24 hbox hb; have n0_ := Aside0.mk (blk_below (g := gb101) (o := .cells #[.int .i8 a0_0, .slice A0_1 l0_1.length c0_1, .slice A0_2 l0_2.length c0_2] 30 (0, 0)) (by (with_reducible repeat (first | refine blk_drewN ?_ _ | refine blk_drew ?_ | refine blk_alloc ?_ _)); exact BK101.out) hb); have n1_ := Aside0.mk (below_step (by repeat (first | (with_reducible first | exact HB.out | apply below_alloc | apply pw_below_drewN | apply below_drew1 | refine below_set ?_ GE101.out) | exact HB.out)) hb); have n2_ := Aside0.mk (hbox); have n3_ := Aside0.mk ((by rw [hg]; exact (below_size (by repeat (first | (with_reducible first | exact HB.out | apply below_alloc | apply pw_below_drewN | apply below_drew1 | refine below_set ?_ GE101.out) | exact HB.out))) : w.heap.size ≤ gb102)); have n4_ := Aside0.mk ((by rw [hg]; exact (below_size (by repeat (first | (with_reducible first | exact HB.out | apply below_alloc | apply pw_below_drewN | apply below_drew1 | refine below_set ?_ GE101.out) | exact HB.out))) : w.heap.size ≤ gb102)); have n5_ := Aside0.mk ((by rw [hg]; exact Nat.ne_of_lt (blk_lt (g := gb101) (o := .cells #[.int .i8 a0_0, .slice A0_1 l0_1.length c0_1, .slice A0_2 l0_2.length c0_2] 30 (0, 0)) (by (with_reducible repeat (first | refine blk_drewN ?_ _ | refine blk_drew ?_ | refine blk_alloc ?_ _)); exact BK101.out)) : gb101 ≠ gb102)); have n6_ := Aside0.mk ((by rw [hg]; exact Nat.ne_of_gt (blk_lt (g := gb101) (o := .cells #[.int .i8 a0_0, .slice A0_1 l0_1.length c0_1, .slice A0_2 l0_2.length c0_2] 30 (0, 0)) (by (with_reducible repeat (first | refine blk_drewN ?_ _ | refine blk_drew ?_ | refine blk_alloc ?_ _)); exact BK101.out)) : gb102 ≠ gb101)); clear BK101; clear HB; have BK101 := n0_; have HB := n1_; have BK102 := n2_; have GW102 := n3_; have GE102 := n4_; have NB101_102 := n5_; have NB102_101 := n6_; clear n0_ n1_ n2_ n3_ n4_ n5_ n6_; clear hb hbox hg; have hnb25 := NB102_101.out; have hnc25 := NB101_102.out; have hcz26_0 : w24.cell? ⟨gb102, 0, none⟩ = some (.int .i8 a1_0) := (blk_cell BK102.out 0).trans rfl; have hcz26_1 : w24.cell? ⟨gb102, 1, none⟩ = some (.int .i16 a1_1) := (blk_cell BK102.out 1).trans rfl; have hcz26_2 : w24.cell? ⟨gb102, 2, none⟩ = some (.int .i16 a1_2) := (blk_cell BK102.out 2).trans rfl; have hfz26_0 := blk_frozen BK102.out 0; have hfz26_1 := blk_frozen BK102.out 1; have hfz26_2 := blk_frozen BK102.out 2))
        repeat (go_quiet (first | ((with_reducible refine gate_dst (N := 3) rfl ?_); refine box_event ?hg (N := 3) ?hd (cs := #[.int .i8 a0_0, .slice A0_1 l0_1.length c0_1, .slice A0_2 l0_2.length c0_2]) (t := 30) ?hr ?_; (case hd => rfl); (case hg => rfl); (case hr => first | (go_simp; done) | (go_simp; rfl)); intro gb101 hg w23 hbox hb; have n0_ := Aside0.mk (below_step (by repeat (first | (with_reducible first | exact HB.out | apply below_alloc | apply pw_below_drewN | apply below_drew1) | exact HB.out)) hb); have n1_ := Aside0.mk (hbox); have n2_ := Aside0.mk ((by rw [hg]; exact (below_size (by repeat (first | (with_reducible first | exact HB.out | apply below_alloc | apply pw_below_drewN | apply below_drew1) | exact HB.out))) : w.heap.size ≤ gb101)); have n3_ := Aside0.mk ((by rw [hg]; exact (below_size (by repeat (first | (with_reducible first | exact HB.out | apply below_alloc | apply pw_below_drewN | apply below_drew1) | exact HB.out))) : w.heap.size ≤ gb101)); clear HB; have HB := n0_; have BK101 := n1_; have GW101 := n2_; have GE101 := n3_; clear n0_ n1_ n2_ n3_; clear hb hbox hg) | ((with_reducible refine gate_dst (N := 4) rfl ?_); refine box_event ?hg (N := 4) ?hd (cs := #[.int .i8 a1_0, .int .i16 a1_1, .int .i16 a1_2]) (t := 68) ?hr ?_; (case hd => rfl); (case hg => rfl); (case hr => first | (go_simp; done) | (go_simp; rfl)); intro gb102 hg w24 hbox hb; have n0_ := Aside0.mk (blk_below (g := gb101) (o := .cells #[.int .i8 a0_0, .slice A0_1 l0_1.length c0_1, .slice A0_2 l0_2.length c0_2] 30 (0, 0)) (by (with_reducible repeat (first | refine blk_drewN ?_ _ | refine blk_drew ?_ | refine blk_alloc ?_ _)); exact BK101.out) hb); have n1_ := Aside0.mk (below_step (by repeat (first | (with_reducible first | exact HB.out | apply below_alloc | apply pw_below_drewN | apply below_drew1 | refine below_set ?_ GE101.out) | exact HB.out)) hb); have n2_ := Aside0.mk (hbox); have n3_ := Aside0.mk ((by rw [hg]; exact (below_size (by repeat (first | (with_reducible first | exact HB.out | apply below_alloc | apply pw_below_drewN | apply below_drew1 | refine below_set ?_ GE101.out) | exact HB.out))) : w.heap.size ≤ gb102)); have n4_ := Aside0.mk ((by rw [hg]; exact (below_size (by repeat (first | (with_reducible first | exact HB.out | apply below_alloc | apply pw_below_drewN | apply below_drew1 | refine below_set ?_ GE101.out) | exact HB.out))) : w.heap.size ≤ gb102)); have n5_ := Aside0.mk ((by rw [hg]; exact Nat.ne_of_lt (blk_lt (g := gb101) (o := .cells #[.int .i8 a0_0, .slice A0_1 l0_1.length c0_1, .slice A0_2 l0_2.length c0_2] 30 (0, 0)) (by (with_reducible repeat (first | refine blk_drewN ?_ _ | refine blk_drew ?_ | refine blk_alloc ?_ _)); exact BK101.out)) : gb101 ≠ gb102)); have n6_ := Aside0.mk ((by rw [hg]; exact Nat.ne_of_gt (blk_lt (g := gb101) (o := .cells #[.int .i8 a0_0, .slice A0_1 l0_1.length c0_1, .slice A0_2 l0_2.length c0_2] 30 (0, 0)) (by (with_reducible repeat (first | refine blk_drewN ?_ _ | refine blk_drew ?_ | refine blk_alloc ?_ _)); exact BK101.out)) : gb102 ≠ gb101)); clear BK101; clear HB; have BK101 := n0_; have HB := n1_; have BK102 := n2_; have GW102 := n3_; have GE102 := n4_; have NB101_102 := n5_; have NB102_101 := n6_; clear n0_ n1_ n2_ n3_ n4_ n5_ n6_; clear hb hbox hg; have hnb25 := NB102_101.out; have hnc25 := NB101_102.out; have hcz26_0 : w24.cell? ⟨gb102, 0, none⟩ = some (.int .i8 a1_0) := (blk_cell BK102.out 0).trans rfl; have hcz26_1 : w24.cell? ⟨gb102, 1, none⟩ = some (.int .i16 a1_1) := (blk_cell BK102.out 1).trans rfl; have hcz26_2 : w24.cell? ⟨gb102, 2, none⟩ = some (.int .i16 a1_2) := (blk_cell BK102.out 2).trans rfl; have hfz26_0 := blk_frozen BK102.out 0; have hfz26_1 := blk_frozen BK102.out 1; have hfz26_2 := blk_frozen BK102.out 2)); try go_wp2_with (first | ((with_reducible refine gate_dst (N := 3) rfl ?_); refine box_event ?hg (N := 3) ?hd (cs := #[.int .i8 a0_0, .slice A0_1 l0_1.length c0_1, .slice A0_2 l0_2.length c0_2]) (t := 30) ?hr ?_; (case hd => rfl); (case hg => rfl); (case hr => first | (go_simp; done) | (go_simp; rfl)); intro gb101 hg w23 hbox hb; have n0_ := Aside0.mk (below_step (by repeat (first | (with_reducible first | exact HB.out | apply below_alloc | apply pw_below_drewN | apply below_drew1) | exact HB.out)) hb); have n1_ := Aside0.mk (hbox); have n2_ := Aside0.mk ((by rw [hg]; exact (below_size (by repeat (first | (with_reducible first | exact HB.out | apply below_alloc | apply pw_below_drewN | apply below_drew1) | exact HB.out))) : w.heap.size ≤ gb101)); have n3_ := Aside0.mk ((by rw [hg]; exact (below_size (by repeat (first | (with_reducible first | exact HB.out | apply below_alloc | apply pw_below_drewN | apply below_drew1) | exact HB.out))) : w.heap.size ≤ gb101)); clear HB; have HB := n0_; have BK101 := n1_; have GW101 := n2_; have GE101 := n3_; clear n0_ n1_ n2_ n3_; clear hb hbox hg) | ((with_reducible refine gate_dst (N := 4) rfl ?_); refine box_event ?hg (N := 4) ?hd (cs := #[.int .i8 a1_0, .int .i16 a1_1, .int .i16 a1_2]) (t := 68) ?hr ?_; (case hd => rfl); (case hg => rfl); (case hr => first | (go_simp; done) | (go_simp; rfl)); intro gb102 hg w24 hbox hb; have n0_ := Aside0.mk (blk_below (g := gb101) (o := .cells #[.int .i8 a0_0, .slice A0_1 l0_1.length c0_1, .slice A0_2 l0_2.length c0_2] 30 (0, 0)) (by (with_reducible repeat (first | refine blk_drewN ?_ _ | refine blk_drew ?_ | refine blk_alloc ?_ _)); exact BK101.out) hb); have n1_ := Aside0.mk (below_step (by repeat (first | (with_reducible first | exact HB.out | apply below_alloc | apply pw_below_drewN | apply below_drew1 | refine below_set ?_ GE101.out) | exact HB.out)) hb); have n2_ := Aside0.mk (hbox); have n3_ := Aside0.mk ((by rw [hg]; exact (below_size (by repeat (first | (with_reducible first | exact HB.out | apply below_alloc | apply pw_below_drewN | apply below_drew1 | refine below_set ?_ GE101.out) | exact HB.out))) : w.heap.size ≤ gb102)); have n4_ := Aside0.mk ((by rw [hg]; exact (below_size (by repeat (first | (with_reducible first | exact HB.out | apply below_alloc | apply pw_below_drewN | apply below_drew1 | refine below_set ?_ GE101.out) | exact HB.out))) : w.heap.size ≤ gb102)); have n5_ := Aside0.mk ((by rw [hg]; exact Nat.ne_of_lt (blk_lt (g := gb101) (o := .cells #[.int .i8 a0_0, .slice A0_1 l0_1.length c0_1, .slice A0_2 l0_2.length c0_2] 30 (0, 0)) (by (with_reducible repeat (first | refine blk_drewN ?_ _ | refine blk_drew ?_ | refine blk_alloc ?_ _)); exact BK101.out)) : gb101 ≠ gb102)); have n6_ := Aside0.mk ((by rw [hg]; exact Nat.ne_of_gt (blk_lt (g := gb101) (o := .cells #[.int .i8 a0_0, .slice A0_1 l0_1.length c0_1, .slice A0_2 l0_2.length c0_2] 30 (0, 0)) (by (with_reducible repeat (first | refine blk_drewN ?_ _ | refine blk_drew ?_ | refine blk_alloc ?_ _)); exact BK101.out)) : gb102 ≠ gb101)); clear BK101; clear HB; have BK101 := n0_; have HB := n1_; have BK102 := n2_; have GW102 := n3_; have GE102 := n4_; have NB101_102 := n5_; have NB102_101 := n6_; clear n0_ n1_ n2_ n3_ n4_ n5_ n6_; clear hb hbox hg; have hnb25 := NB102_101.out; have hnc25 := NB101_102.out; have hcz26_0 : w24.cell? ⟨gb102, 0, none⟩ = some (.int .i8 a1_0) := (blk_cell BK102.out 0).trans rfl; have hcz26_1 : w24.cell? ⟨gb102, 1, none⟩ = some (.int .i16 a1_1) := (blk_cell BK102.out 1).trans rfl; have hcz26_2 : w24.cell? ⟨gb102, 2, none⟩ = some (.int .i16 a1_2) := (blk_cell BK102.out 2).trans rfl; have hfz26_0 := blk_frozen BK102.out 0; have hfz26_1 := blk_frozen BK102.out 1; have hfz26_2 := blk_frozen BK102.out 2)))
        go_ret
        exact ⟨by first | rfl | (simp [errW_none, errW_some] <;> rfl) | (simp [*, errW_none, errW_some] <;> rfl), by repeat (first | (with_reducible first | exact HB.out | apply below_alloc | apply pw_below_drewN | apply below_drew1 | refine below_set ?_ GE101.out | refine below_set ?_ GE102.out) | exact HB.out)⟩
    · rw [if_neg c17] at H
      have c17b0 : (a1_0 == 1) = false := beq_eq_false_iff_ne.mpr c17
      have c17b1 : (a1_0 != 1) = true := bne_iff_ne.mpr c17
      replace H := Option.bind_eq_some_iff.mp H
      obtain ⟨t104, A270, H⟩ := H
      replace H : (if t104 = true then ((impl_within.f (wrap64 (a1_1)) 0 (wrap64 (a2 - 1))).bind fun t105 => (if t105 = true then ((impl_within.f (wrap64 (a1_2)) 0 (wrap64 (a2 - 1))).bind fun t106 => (some t106)) else (some false))) else (some false)) = some r := H
      have A27 := Aside0.mk A270
      clear A270
      by_cases c28 : t104 = true
      · subst c28
        have H1 : ((impl_within.f (wrap64 (a1_1)) 0 (wrap64 (a2 - 1))).bind fun t105 => (if t105 = true then ((impl_within.f (wrap64 (a1_2)) 0 (wrap64 (a2 - 1))).bind fun t106 => (some t106)) else (some false))) = some r := by rw [if_pos rfl] at H; exact H
        clear H
        have H := H1
        clear H1
        replace H := Option.bind_eq_some_iff.mp H
        obtain ⟨t105, A290, H⟩ := H
        replace H : (if t105 = true then ((impl_within.f (wrap64 (a1_2)) 0 (wrap64 (a2 - 1))).bind fun t106 => (some t106)) else (some false)) = some r := H
        have A29 := Aside0.mk A290
        clear A290
        by_cases c30 : t105 = true
        · subst c30
          have H1 : ((impl_within.f (wrap64 (a1_2)) 0 (wrap64 (a2 - 1))).bind fun t106 => (some t106)) = some r := by rw [if_pos rfl] at H; exact H
          clear H
          have H := H1
          clear H1
          replace H := Option.bind_eq_some_iff.mp H
          obtain ⟨t106, A310, H⟩ := H
          replace H : (some t106) = some r := H
          have A31 := Aside0.mk A310
          clear A310
          obtain rfl := Option.some.inj H
          go_enter Try.func83, Try.ntmps83
          go_wp2_with (first | ((with_reducible refine gate_dst (N := 3) rfl ?_); refine box_event ?hg (N := 3) ?hd (cs := #[.int .i8 a0_0, .slice A0_1 l0_1.length c0_1, .slice A0_2 l0_2.length c0_2]) (t := 30) ?hr ?_; (case hd => rfl); (case hg => rfl); (case hr => first | (go_simp; done) | (go_simp; rfl)); intro gb101 hg w32 hbox hb; have n0_ := Aside0.mk (below_step (by repeat (first | (with_reducible first | exact HB.out | apply below_alloc | apply pw_below_drewN | apply below_drew1) | exact HB.out)) hb); have n1_ := Aside0.mk (hbox); have n2_ := Aside0.mk ((by rw [hg]; exact (below_size (by repeat (first | (with_reducible first | exact HB.out | apply below_alloc | apply pw_below_drewN | apply below_drew1) | exact HB.out))) : w.heap.size ≤ gb101)); have n3_ := Aside0.mk ((by rw [hg]; exact (below_size (by repeat (first | (with_reducible first | exact HB.out | apply below_alloc | apply pw_below_drewN | apply below_drew1) | exact HB.out))) : w.heap.size ≤ gb101)); clear HB; have HB := n0_; have BK101 := n1_; have GW101 := n2_; have GE101 := n3_; clear n0_ n1_ n2_ n3_; clear hb hbox hg) | ((with_reducible refine gate_dst (N := 4) rfl ?_); refine box_event ?hg (N := 4) ?hd (cs := #[.int .i8 a1_0, .int .i16 a1_1, .int .i16 a1_2]) (t := 68) ?hr ?_; (case hd => rfl); (case hg => rfl); (case hr => first | (go_simp; done) | (go_simp; rfl)); intro gb102 hg w33 hbox hb; have n0_ := Aside0.mk (blk_below (g := gb101) (o := .cells #[.int .i8 a0_0, .slice A0_1 l0_1.length c0_1, .slice A0_2 l0_2.length c0_2] 30 (0, 0)) (by (with_reducible repeat (first | refine blk_drewN ?_ _ | refine blk_drew ?_ | refine blk_alloc ?_ _)); exact BK101.out) hb); have n1_ := Aside0.mk (below_step (by repeat (first | (with_reducible first | exact HB.out | apply below_alloc | apply pw_below_drewN | apply below_drew1 | refine below_set ?_ GE101.out) | exact HB.out)) hb); have n2_ := Aside0.mk (hbox); have n3_ := Aside0.mk ((by rw [hg]; exact (below_size (by repeat (first | (with_reducible first | exact HB.out | apply below_alloc | apply pw_below_drewN | apply below_drew1 | refine below_set ?_ GE101.out) | exact HB.out))) : w.heap.size ≤ gb102)); have n4_ := Aside0.mk ((by rw [hg]; exact (below_size (by repeat (first | (with_reducible first | exact HB.out | apply below_alloc | apply pw_below_drewN | apply below_drew1 | refine below_set ?_ GE101.out) | exact HB.out))) : w.heap.size ≤ gb102)); have n5_ := Aside0.mk ((by rw [hg]; exact Nat.ne_of_lt (blk_lt (g := gb101) (o := .cells #[.int .i8 a0_0, .slice A0_1 l0_1.length c0_1, .slice A0_2 l0_2.length c0_2] 30 (0, 0)) (by (with_reducible repeat (first | refine blk_drewN ?_ _ | refine blk_drew ?_ | refine blk_alloc ?_ _)); exact BK101.out)) : gb101 ≠ gb102)); have n6_ := Aside0.mk ((by rw [hg]; exact Nat.ne_of_gt (blk_lt (g := gb101) (o := .cells #[.int .i8 a0_0, .slice A0_1 l0_1.length c0_1, .slice A0_2 l0_2.length c0_2] 30 (0, 0)) (by (with_reducible repeat (first | refine blk_drewN ?_ _ | refine blk_drew ?_ | refine blk_alloc ?_ _)); exact BK101.out)) : gb102 ≠ gb101)); clear BK101; clear HB; have BK101 := n0_; have HB := n1_; have BK102 := n2_; have GW102 := n3_; have GE102 := n4_; have NB101_102 := n5_; have NB102_101 := n6_; clear n0_ n1_ n2_ n3_ n4_ n5_ n6_; clear hb hbox hg; have hnb34 := NB102_101.out; have hnc34 := NB101_102.out; have hcz35_0 : w33.cell? ⟨gb102, 0, none⟩ = some (.int .i8 a1_0) := (blk_cell BK102.out 0).trans rfl; have hcz35_1 : w33.cell? ⟨gb102, 1, none⟩ = some (.int .i16 a1_1) := (blk_cell BK102.out 1).trans rfl; have hcz35_2 : w33.cell? ⟨gb102, 2, none⟩ = some (.int .i16 a1_2) := (blk_cell BK102.out 2).trans rfl; have hfz35_0 := blk_frozen BK102.out 0; have hfz35_1 := blk_frozen BK102.out 1; have hfz35_2 := blk_frozen BK102.out 2) | (go_at_call 49; (with_reducible refine (impl_Gate_isPair.calls a1_0 a1_1 a1_2 true _ A27.out).mono ?_); rintro e w36 ⟨rfl, hb⟩; have n0_ := Aside0.mk (blk_below (g := gb101) (o := .cells #[.int .i8 a0_0, .slice A0_1 l0_1.length c0_1, .slice A0_2 l0_2.length c0_2] 30 (0, 0)) (by (with_reducible repeat (first | refine blk_drewN ?_ _ | refine blk_drew ?_ | refine blk_alloc ?_ _)); exact BK101.out) hb); have n1_ := Aside0.mk (blk_below (g := gb102) (o := .cells #[.int .i8 a1_0, .int .i16 a1_1, .int .i16 a1_2] 68 (0, 0)) (by (with_reducible repeat (first | refine blk_drewN ?_ _ | refine blk_drew ?_ | refine blk_alloc ?_ _)); exact BK102.out) hb); have n2_ := Aside0.mk (below_step (by repeat (first | (with_reducible first | exact HB.out | apply below_alloc | apply pw_below_drewN | apply below_drew1 | refine below_set ?_ GE101.out | refine below_set ?_ GE102.out) | exact HB.out)) hb); clear BK101; clear BK102; clear HB; have BK101 := n0_; have BK102 := n1_; have HB := n2_; clear n0_ n1_ n2_; (try clear hb); (try clear hb2); (try clear hk); (try clear hi)) | (go_at_call 48; (with_reducible refine (impl_within.calls (wrap64 (a1_1)) 0 (wrap64 (a2 - 1)) true _ A29.out).mono ?_); rintro e w' ⟨rfl, ⟨nd, rfl⟩⟩; (try first | exact ⟨rfl, _, World.drewN_drewN _ _ _⟩ | exact ⟨rfl, _, Eq.trans (World.drewN_drewN _ _ _) (congrArg (World.drewN _) (Nat.add_assoc _ _ _))⟩)) | (go_at_call 48; (with_reducible refine (impl_within.calls (wrap64 (a1_2)) 0 (wrap64 (a2 - 1)) t106 _ A31.out).mono ?_); rintro e w' ⟨rfl, ⟨nd, rfl⟩⟩; (try first | exact ⟨rfl, _, World.drewN_drewN _ _ _⟩ | exact ⟨rfl, _, Eq.trans (World.drewN_drewN _ _ _) (congrArg (World.drewN _) (Nat.add_assoc _ _ _))⟩)))
          repeat (go_quiet (first | ((with_reducible refine gate_dst (N := 3) rfl ?_); refine box_event ?hg (N := 3) ?hd (cs := #[.int .i8 a0_0, .slice A0_1 l0_1.length c0_1, .slice A0_2 l0_2.length c0_2]) (t := 30) ?hr ?_; (case hd => rfl); (case hg => rfl); (case hr => first | (go_simp; done) | (go_simp; rfl)); intro gb101 hg w32 hbox hb; have n0_ := Aside0.mk (below_step (by repeat (first | (with_reducible first | exact HB.out | apply below_alloc | apply pw_below_drewN | apply below_drew1) | exact HB.out)) hb); have n1_ := Aside0.mk (hbox); have n2_ := Aside0.mk ((by rw [hg]; exact (below_size (by repeat (first | (with_reducible first | exact HB.out | apply below_alloc | apply pw_below_drewN | apply below_drew1) | exact HB.out))) : w.heap.size ≤ gb101)); have n3_ := Aside0.mk ((by rw [hg]; exact (below_size (by repeat (first | (with_reducible first | exact HB.out | apply below_alloc | apply pw_below_drewN | apply below_drew1) | exact HB.out))) : w.heap.size ≤ gb101)); clear HB; have HB := n0_; have BK101 := n1_; have GW101 := n2_; have GE101 := n3_; clear n0_ n1_ n2_ n3_; clear hb hbox hg) | ((with_reducible refine gate_dst (N := 4) rfl ?_); refine box_event ?hg (N := 4) ?hd (cs := #[.int .i8 a1_0, .int .i16 a1_1, .int .i16 a1_2]) (t := 68) ?hr ?_; (case hd => rfl); (case hg => rfl); (case hr => first | (go_simp; done) | (go_simp; rfl)); intro gb102 hg w33 hbox hb; have n0_ := Aside0.mk (blk_below (g := gb101) (o := .cells #[.int .i8 a0_0, .slice A0_1 l0_1.length c0_1, .slice A0_2 l0_2.length c0_2] 30 (0, 0)) (by (with_reducible repeat (first | refine blk_drewN ?_ _ | refine blk_drew ?_ | refine blk_alloc ?_ _)); exact BK101.out) hb); have n1_ := Aside0.mk (below_step (by repeat (first | (with_reducible first | exact HB.out | apply below_alloc | apply pw_below_drewN | apply below_drew1 | refine below_set ?_ GE101.out) | exact HB.out)) hb); have n2_ := Aside0.mk (hbox); have n3_ := Aside0.mk ((by rw [hg]; exact (below_size (by repeat (first | (with_reducible first | exact HB.out | apply below_alloc | apply pw_below_drewN | apply below_drew1 | refine below_set ?_ GE101.out) | exact HB.out))) : w.heap.size ≤ gb102)); have n4_ := Aside0.mk ((by rw [hg]; exact (below_size (by repeat (first | (with_reducible first | exact HB.out | apply below_alloc | apply pw_below_drewN | apply below_drew1 | refine below_set ?_ GE101.out) | exact HB.out))) : w.heap.size ≤ gb102)); have n5_ := Aside0.mk ((by rw [hg]; exact Nat.ne_of_lt (blk_lt (g := gb101) (o := .cells #[.int .i8 a0_0, .slice A0_1 l0_1.length c0_1, .slice A0_2 l0_2.length c0_2] 30 (0, 0)) (by (with_reducible repeat (first | refine blk_drewN ?_ _ | refine blk_drew ?_ | refine blk_alloc ?_ _)); exact BK101.out)) : gb101 ≠ gb102)); have n6_ := Aside0.mk ((by rw [hg]; exact Nat.ne_of_gt (blk_lt (g := gb101) (o := .cells #[.int .i8 a0_0, .slice A0_1 l0_1.length c0_1, .slice A0_2 l0_2.length c0_2] 30 (0, 0)) (by (with_reducible repeat (first | refine blk_drewN ?_ _ | refine blk_drew ?_ | refine blk_alloc ?_ _)); exact BK101.out)) : gb102 ≠ gb101)); clear BK101; clear HB; have BK101 := n0_; have HB := n1_; have BK102 := n2_; have GW102 := n3_; have GE102 := n4_; have NB101_102 := n5_; have NB102_101 := n6_; clear n0_ n1_ n2_ n3_ n4_ n5_ n6_; clear hb hbox hg; have hnb34 := NB102_101.out; have hnc34 := NB101_102.out; have hcz35_0 : w33.cell? ⟨gb102, 0, none⟩ = some (.int .i8 a1_0) := (blk_cell BK102.out 0).trans rfl; have hcz35_1 : w33.cell? ⟨gb102, 1, none⟩ = some (.int .i16 a1_1) := (blk_cell BK102.out 1).trans rfl; have hcz35_2 : w33.cell? ⟨gb102, 2, none⟩ = some (.int .i16 a1_2) := (blk_cell BK102.out 2).trans rfl; have hfz35_0 := blk_frozen BK102.out 0; have hfz35_1 := blk_frozen BK102.out 1; have hfz35_2 := blk_frozen BK102.out 2) | (go_at_call 49; (with_reducible refine (impl_Gate_isPair.calls a1_0 a1_1 a1_2 true _ A27.out).mono ?_); rintro e w36 ⟨rfl, hb⟩; have n0_ := Aside0.mk (blk_below (g := gb101) (o := .cells #[.int .i8 a0_0, .slice A0_1 l0_1.length c0_1, .slice A0_2 l0_2.length c0_2] 30 (0, 0)) (by (with_reducible repeat (first | refine blk_drewN ?_ _ | refine blk_drew ?_ | refine blk_alloc ?_ _)); exact BK101.out) hb); have n1_ := Aside0.mk (blk_below (g := gb102) (o := .cells #[.int .i8 a1_0, .int .i16 a1_1, .int .i16 a1_2] 68 (0, 0)) (by (with_reducible repeat (first | refine blk_drewN ?_ _ | refine blk_drew ?_ | refine blk_alloc ?_ _)); exact BK102.out) hb); have n2_ := Aside0.mk (below_step (by repeat (first | (with_reducible first | exact HB.out | apply below_alloc | apply pw_below_drewN | apply below_drew1 | refine below_set ?_ GE101.out | refine below_set ?_ GE102.out) | exact HB.out)) hb); clear BK101; clear BK102; clear HB; have BK101 := n0_; have BK102 := n1_; have HB := n2_; clear n0_ n1_ n2_; (try clear hb); (try clear hb2); (try clear hk); (try clear hi)) | (go_at_call 48; (with_reducible refine (impl_within.calls (wrap64 (a1_1)) 0 (wrap64 (a2 - 1)) true _ A29.out).mono ?_); rintro e w' ⟨rfl, ⟨nd, rfl⟩⟩; (try first | exact ⟨rfl, _, World.drewN_drewN _ _ _⟩ | exact ⟨rfl, _, Eq.trans (World.drewN_drewN _ _ _) (congrArg (World.drewN _) (Nat.add_assoc _ _ _))⟩)) | (go_at_call 48; (with_reducible refine (impl_within.calls (wrap64 (a1_2)) 0 (wrap64 (a2 - 1)) t106 _ A31.out).mono ?_); rintro e w' ⟨rfl, ⟨nd, rfl⟩⟩; (try first | exact ⟨rfl, _, World.drewN_drewN _ _ _⟩ | exact ⟨rfl, _, Eq.trans (World.drewN_drewN _ _ _) (congrArg (World.drewN _) (Nat.add_assoc _ _ _))⟩))); try go_wp2_with (first | ((with_reducible refine gate_dst (N := 3) rfl ?_); refine box_event ?hg (N := 3) ?hd (cs := #[.int .i8 a0_0, .slice A0_1 l0_1.length c0_1, .slice A0_2 l0_2.length c0_2]) (t := 30) ?hr ?_; (case hd => rfl); (case hg => rfl); (case hr => first | (go_simp; done) | (go_simp; rfl)); intro gb101 hg w32 hbox hb; have n0_ := Aside0.mk (below_step (by repeat (first | (with_reducible first | exact HB.out | apply below_alloc | apply pw_below_drewN | apply below_drew1) | exact HB.out)) hb); have n1_ := Aside0.mk (hbox); have n2_ := Aside0.mk ((by rw [hg]; exact (below_size (by repeat (first | (with_reducible first | exact HB.out | apply below_alloc | apply pw_below_drewN | apply below_drew1) | exact HB.out))) : w.heap.size ≤ gb101)); have n3_ := Aside0.mk ((by rw [hg]; exact (below_size (by repeat (first | (with_reducible first | exact HB.out | apply below_alloc | apply pw_below_drewN | apply below_drew1) | exact HB.out))) : w.heap.size ≤ gb101)); clear HB; have HB := n0_; have BK101 := n1_; have GW101 := n2_; have GE101 := n3_; clear n0_ n1_ n2_ n3_; clear hb hbox hg) | ((with_reducible refine gate_dst (N := 4) rfl ?_); refine box_event ?hg (N := 4) ?hd (cs := #[.int .i8 a1_0, .int .i16 a1_1, .int .i16 a1_2]) (t := 68) ?hr ?_; (case hd => rfl); (case hg => rfl); (case hr => first | (go_simp; done) | (go_simp; rfl)); intro gb102 hg w33 hbox hb; have n0_ := Aside0.mk (blk_below (g := gb101) (o := .cells #[.int .i8 a0_0, .slice A0_1 l0_1.length c0_1, .slice A0_2 l0_2.length c0_2] 30 (0, 0)) (by (with_reducible repeat (first | refine blk_drewN ?_ _ | refine blk_drew ?_ | refine blk_alloc ?_ _)); exact BK101.out) hb); have n1_ := Aside0.mk (below_step (by repeat (first | (with_reducible first | exact HB.out | apply below_alloc | apply pw_below_drewN | apply below_drew1 | refine below_set ?_ GE101.out) | exact HB.out)) hb); have n2_ := Aside0.mk (hbox); have n3_ := Aside0.mk ((by rw [hg]; exact (below_size (by repeat (first | (with_reducible first | exact HB.out | apply below_alloc | apply pw_below_drewN | apply below_drew1 | refine below_set ?_ GE101.out) | exact HB.out))) : w.heap.size ≤ gb102)); have n4_ := Aside0.mk ((by rw [hg]; exact (below_size (by repeat (first | (with_reducible first | exact HB.out | apply below_alloc | apply pw_below_drewN | apply below_drew1 | refine below_set ?_ GE101.out) | exact HB.out))) : w.heap.size ≤ gb102)); have n5_ := Aside0.mk ((by rw [hg]; exact Nat.ne_of_lt (blk_lt (g := gb101) (o := .cells #[.int .i8 a0_0, .slice A0_1 l0_1.length c0_1, .slice A0_2 l0_2.length c0_2] 30 (0, 0)) (by (with_reducible repeat (first | refine blk_drewN ?_ _ | refine blk_drew ?_ | refine blk_alloc ?_ _)); exact BK101.out)) : gb101 ≠ gb102)); have n6_ := Aside0.mk ((by rw [hg]; exact Nat.ne_of_gt (blk_lt (g := gb101) (o := .cells #[.int .i8 a0_0, .slice A0_1 l0_1.length c0_1, .slice A0_2 l0_2.length c0_2] 30 (0, 0)) (by (with_reducible repeat (first | refine blk_drewN ?_ _ | refine blk_drew ?_ | refine blk_alloc ?_ _)); exact BK101.out)) : gb102 ≠ gb101)); clear BK101; clear HB; have BK101 := n0_; have HB := n1_; have BK102 := n2_; have GW102 := n3_; have GE102 := n4_; have NB101_102 := n5_; have NB102_101 := n6_; clear n0_ n1_ n2_ n3_ n4_ n5_ n6_; clear hb hbox hg; have hnb34 := NB102_101.out; have hnc34 := NB101_102.out; have hcz35_0 : w33.cell? ⟨gb102, 0, none⟩ = some (.int .i8 a1_0) := (blk_cell BK102.out 0).trans rfl; have hcz35_1 : w33.cell? ⟨gb102, 1, none⟩ = some (.int .i16 a1_1) := (blk_cell BK102.out 1).trans rfl; have hcz35_2 : w33.cell? ⟨gb102, 2, none⟩ = some (.int .i16 a1_2) := (blk_cell BK102.out 2).trans rfl; have hfz35_0 := blk_frozen BK102.out 0; have hfz35_1 := blk_frozen BK102.out 1; have hfz35_2 := blk_frozen BK102.out 2) | (go_at_call 49; (with_reducible refine (impl_Gate_isPair.calls a1_0 a1_1 a1_2 true _ A27.out).mono ?_); rintro e w36 ⟨rfl, hb⟩; have n0_ := Aside0.mk (blk_below (g := gb101) (o := .cells #[.int .i8 a0_0, .slice A0_1 l0_1.length c0_1, .slice A0_2 l0_2.length c0_2] 30 (0, 0)) (by (with_reducible repeat (first | refine blk_drewN ?_ _ | refine blk_drew ?_ | refine blk_alloc ?_ _)); exact BK101.out) hb); have n1_ := Aside0.mk (blk_below (g := gb102) (o := .cells #[.int .i8 a1_0, .int .i16 a1_1, .int .i16 a1_2] 68 (0, 0)) (by (with_reducible repeat (first | refine blk_drewN ?_ _ | refine blk_drew ?_ | refine blk_alloc ?_ _)); exact BK102.out) hb); have n2_ := Aside0.mk (below_step (by repeat (first | (with_reducible first | exact HB.out | apply below_alloc | apply pw_below_drewN | apply below_drew1 | refine below_set ?_ GE101.out | refine below_set ?_ GE102.out) | exact HB.out)) hb); clear BK101; clear BK102; clear HB; have BK101 := n0_; have BK102 := n1_; have HB := n2_; clear n0_ n1_ n2_; (try clear hb); (try clear hb2); (try clear hk); (try clear hi)) | (go_at_call 48; (with_reducible refine (impl_within.calls (wrap64 (a1_1)) 0 (wrap64 (a2 - 1)) true _ A29.out).mono ?_); rintro e w' ⟨rfl, ⟨nd, rfl⟩⟩; (try first | exact ⟨rfl, _, World.drewN_drewN _ _ _⟩ | exact ⟨rfl, _, Eq.trans (World.drewN_drewN _ _ _) (congrArg (World.drewN _) (Nat.add_assoc _ _ _))⟩)) | (go_at_call 48; (with_reducible refine (impl_within.calls (wrap64 (a1_2)) 0 (wrap64 (a2 - 1)) t106 _ A31.out).mono ?_); rintro e w' ⟨rfl, ⟨nd, rfl⟩⟩; (try first | exact ⟨rfl, _, World.drewN_drewN _ _ _⟩ | exact ⟨rfl, _, Eq.trans (World.drewN_drewN _ _ _) (congrArg (World.drewN _) (Nat.add_assoc _ _ _))⟩))))
          go_ret
          exact ⟨by first | rfl | (simp [errW_none, errW_some] <;> rfl) | (simp [*, errW_none, errW_some] <;> rfl), by repeat (first | (with_reducible first | exact HB.out | apply below_alloc | apply pw_below_drewN | apply below_drew1 | refine below_set ?_ GE101.out | refine below_set ?_ GE102.out) | exact HB.out)⟩
        · replace c30 := Bool.eq_false_iff.mpr c30
          subst c30
          have H1 : (some false) = some r := by rw [if_neg (show ¬ (false = true) by decide)] at H; exact H
          clear H
          have H := H1
          clear H1
          obtain rfl := Option.some.inj H
          go_enter Try.func83, Try.ntmps83
          go_wp2_with (first | ((with_reducible refine gate_dst (N := 3) rfl ?_); refine box_event ?hg (N := 3) ?hd (cs := #[.int .i8 a0_0, .slice A0_1 l0_1.length c0_1, .slice A0_2 l0_2.length c0_2]) (t := 30) ?hr ?_; (case hd => rfl); (case hg => rfl); (case hr => first | (go_simp; done) | (go_simp; rfl)); intro gb101 hg w37 hbox hb; have n0_ := Aside0.mk (below_step (by repeat (first | (with_reducible first | exact HB.out | apply below_alloc | apply pw_below_drewN | apply below_drew1) | exact HB.out)) hb); have n1_ := Aside0.mk (hbox); have n2_ := Aside0.mk ((by rw [hg]; exact (below_size (by repeat (first | (with_reducible first | exact HB.out | apply below_alloc | apply pw_below_drewN | apply below_drew1) | exact HB.out))) : w.heap.size ≤ gb101)); have n3_ := Aside0.mk ((by rw [hg]; exact (below_size (by repeat (first | (with_reducible first | exact HB.out | apply below_alloc | apply pw_below_drewN | apply below_drew1) | exact HB.out))) : w.heap.size ≤ gb101)); clear HB; have HB := n0_; have BK101 := n1_; have GW101 := n2_; have GE101 := n3_; clear n0_ n1_ n2_ n3_; clear hb hbox hg) | ((with_reducible refine gate_dst (N := 4) rfl ?_); refine box_event ?hg (N := 4) ?hd (cs := #[.int .i8 a1_0, .int .i16 a1_1, .int .i16 a1_2]) (t := 68) ?hr ?_; (case hd => rfl); (case hg => rfl); (case hr => first | (go_simp; done) | (go_simp; rfl)); intro gb102 hg w38 hbox hb; have n0_ := Aside0.mk (blk_below (g := gb101) (o := .cells #[.int .i8 a0_0, .slice A0_1 l0_1.length c0_1, .slice A0_2 l0_2.length c0_2] 30 (0, 0)) (by (with_reducible repeat (first | refine blk_drewN ?_ _ | refine blk_drew ?_ | refine blk_alloc ?_ _)); exact BK101.out) hb); have n1_ := Aside0.mk (below_step (by repeat (first | (with_reducible first | exact HB.out | apply below_alloc | apply pw_below_drewN | apply below_drew1 | refine below_set ?_ GE101.out) | exact HB.out)) hb); have n2_ := Aside0.mk (hbox); have n3_ := Aside0.mk ((by rw [hg]; exact (below_size (by repeat (first | (with_reducible first | exact HB.out | apply below_alloc | apply pw_below_drewN | apply below_drew1 | refine below_set ?_ GE101.out) | exact HB.out))) : w.heap.size ≤ gb102)); have n4_ := Aside0.mk ((by rw [hg]; exact (below_size (by repeat (first | (with_reducible first | exact HB.out | apply below_alloc | apply pw_below_drewN | apply below_drew1 | refine below_set ?_ GE101.out) | exact HB.out))) : w.heap.size ≤ gb102)); have n5_ := Aside0.mk ((by rw [hg]; exact Nat.ne_of_lt (blk_lt (g := gb101) (o := .cells #[.int .i8 a0_0, .slice A0_1 l0_1.length c0_1, .slice A0_2 l0_2.length c0_2] 30 (0, 0)) (by (with_reducible repeat (first | refine blk_drewN ?_ _ | refine blk_drew ?_ | refine blk_alloc ?_ _)); exact BK101.out)) : gb101 ≠ gb102)); have n6_ := Aside0.mk ((by rw [hg]; exact Nat.ne_of_gt (blk_lt (g := gb101) (o := .cells #[.int .i8 a0_0, .slice A0_1 l0_1.length c0_1, .slice A0_2 l0_2.length c0_2] 30 (0, 0)) (by (with_reducible repeat (first | refine blk_drewN ?_ _ | refine blk_drew ?_ | refine blk_alloc ?_ _)); exact BK101.out)) : gb102 ≠ gb101)); clear BK101; clear HB; have BK101 := n0_; have HB := n1_; have BK102 := n2_; have GW102 := n3_; have GE102 := n4_; have NB101_102 := n5_; have NB102_101 := n6_; clear n0_ n1_ n2_ n3_ n4_ n5_ n6_; clear hb hbox hg; have hnb39 := NB102_101.out; have hnc39 := NB101_102.out; have hcz40_0 : w38.cell? ⟨gb102, 0, none⟩ = some (.int .i8 a1_0) := (blk_cell BK102.out 0).trans rfl; have hcz40_1 : w38.cell? ⟨gb102, 1, none⟩ = some (.int .i16 a1_1) := (blk_cell BK102.out 1).trans rfl; have hcz40_2 : w38.cell? ⟨gb102, 2, none⟩ = some (.int .i16 a1_2) := (blk_cell BK102.out 2).trans rfl; have hfz40_0 := blk_frozen BK102.out 0; have hfz40_1 := blk_frozen BK102.out 1; have hfz40_2 := blk_frozen BK102.out 2) | (go_at_call 49; (with_reducible refine (impl_Gate_isPair.calls a1_0 a1_1 a1_2 true _ A27.out).mono ?_); rintro e w41 ⟨rfl, hb⟩; have n0_ := Aside0.mk (blk_below (g := gb101) (o := .cells #[.int .i8 a0_0, .slice A0_1 l0_1.length c0_1, .slice A0_2 l0_2.length c0_2] 30 (0, 0)) (by (with_reducible repeat (first | refine blk_drewN ?_ _ | refine blk_drew ?_ | refine blk_alloc ?_ _)); exact BK101.out) hb); have n1_ := Aside0.mk (blk_below (g := gb102) (o := .cells #[.int .i8 a1_0, .int .i16 a1_1, .int .i16 a1_2] 68 (0, 0)) (by (with_reducible repeat (first | refine blk_drewN ?_ _ | refine blk_drew ?_ | refine blk_alloc ?_ _)); exact BK102.out) hb); have n2_ := Aside0.mk (below_step (by repeat (first | (with_reducible first | exact HB.out | apply below_alloc | apply pw_below_drewN | apply below_drew1 | refine below_set ?_ GE101.out | refine below_set ?_ GE102.out) | exact HB.out)) hb); clear BK101; clear BK102; clear HB; have BK101 := n0_; have BK102 := n1_; have HB := n2_; clear n0_ n1_ n2_; (try clear hb); (try clear hb2); (try clear hk); (try clear hi)) | (go_at_call 48; (with_reducible refine (impl_within.calls (wrap64 (a1_1)) 0 (wrap64 (a2 - 1)) false _ A29.out).mono ?_); rintro e w' ⟨rfl, ⟨nd, rfl⟩⟩; (try first | exact ⟨rfl, _, World.drewN_drewN _ _ _⟩ | exact ⟨rfl, _, Eq.trans (World.drewN_drewN _ _ _) (congrArg (World.drewN _) (Nat.add_assoc _ _ _))⟩)))
          repeat (go_quiet (first | ((with_reducible refine gate_dst (N := 3) rfl ?_); refine box_event ?hg (N := 3) ?hd (cs := #[.int .i8 a0_0, .slice A0_1 l0_1.length c0_1, .slice A0_2 l0_2.length c0_2]) (t := 30) ?hr ?_; (case hd => rfl); (case hg => rfl); (case hr => first | (go_simp; done) | (go_simp; rfl)); intro gb101 hg w37 hbox hb; have n0_ := Aside0.mk (below_step (by repeat (first | (with_reducible first | exact HB.out | apply below_alloc | apply pw_below_drewN | apply below_drew1) | exact HB.out)) hb); have n1_ := Aside0.mk (hbox); have n2_ := Aside0.mk ((by rw [hg]; exact (below_size (by repeat (first | (with_reducible first | exact HB.out | apply below_alloc | apply pw_below_drewN | apply below_drew1) | exact HB.out))) : w.heap.size ≤ gb101)); have n3_ := Aside0.mk ((by rw [hg]; exact (below_size (by repeat (first | (with_reducible first | exact HB.out | apply below_alloc | apply pw_below_drewN | apply below_drew1) | exact HB.out))) : w.heap.size ≤ gb101)); clear HB; have HB := n0_; have BK101 := n1_; have GW101 := n2_; have GE101 := n3_; clear n0_ n1_ n2_ n3_; clear hb hbox hg) | ((with_reducible refine gate_dst (N := 4) rfl ?_); refine box_event ?hg (N := 4) ?hd (cs := #[.int .i8 a1_0, .int .i16 a1_1, .int .i16 a1_2]) (t := 68) ?hr ?_; (case hd => rfl); (case hg => rfl); (case hr => first | (go_simp; done) | (go_simp; rfl)); intro gb102 hg w38 hbox hb; have n0_ := Aside0.mk (blk_below (g := gb101) (o := .cells #[.int .i8 a0_0, .slice A0_1 l0_1.length c0_1, .slice A0_2 l0_2.length c0_2] 30 (0, 0)) (by (with_reducible repeat (first | refine blk_drewN ?_ _ | refine blk_drew ?_ | refine blk_alloc ?_ _)); exact BK101.out) hb); have n1_ := Aside0.mk (below_step (by repeat (first | (with_reducible first | exact HB.out | apply below_alloc | apply pw_below_drewN | apply below_drew1 | refine below_set ?_ GE101.out) | exact HB.out)) hb); have n2_ := Aside0.mk (hbox); have n3_ := Aside0.mk ((by rw [hg]; exact (below_size (by repeat (first | (with_reducible first | exact HB.out | apply below_alloc | apply pw_below_drewN | apply below_drew1 | refine below_set ?_ GE101.out) | exact HB.out))) : w.heap.size ≤ gb102)); have n4_ := Aside0.mk ((by rw [hg]; exact (below_size (by repeat (first | (with_reducible first | exact HB.out | apply below_alloc | apply pw_below_drewN | apply below_drew1 | refine below_set ?_ GE101.out) | exact HB.out))) : w.heap.size ≤ gb102)); have n5_ := Aside0.mk ((by rw [hg]; exact Nat.ne_of_lt (blk_lt (g := gb101) (o := .cells #[.int .i8 a0_0, .slice A0_1 l0_1.length c0_1, .slice A0_2 l0_2.length c0_2] 30 (0, 0)) (by (with_reducible repeat (first | refine blk_drewN ?_ _ | refine blk_drew ?_ | refine blk_alloc ?_ _)); exact BK101.out)) : gb101 ≠ gb102)); have n6_ := Aside0.mk ((by rw [hg]; exact Nat.ne_of_gt (blk_lt (g := gb101) (o := .cells #[.int .i8 a0_0, .slice A0_1 l0_1.length c0_1, .slice A0_2 l0_2.length c0_2] 30 (0, 0)) (by (with_reducible repeat (first | refine blk_drewN ?_ _ | refine blk_drew ?_ | refine blk_alloc ?_ _)); exact BK101.out)) : gb102 ≠ gb101)); clear BK101; clear HB; have BK101 := n0_; have HB := n1_; have BK102 := n2_; have GW102 := n3_; have GE102 := n4_; have NB101_102 := n5_; have NB102_101 := n6_; clear n0_ n1_ n2_ n3_ n4_ n5_ n6_; clear hb hbox hg; have hnb39 := NB102_101.out; have hnc39 := NB101_102.out; have hcz40_0 : w38.cell? ⟨gb102, 0, none⟩ = some (.int .i8 a1_0) := (blk_cell BK102.out 0).trans rfl; have hcz40_1 : w38.cell? ⟨gb102, 1, none⟩ = some (.int .i16 a1_1) := (blk_cell BK102.out 1).trans rfl; have hcz40_2 : w38.cell? ⟨gb102, 2, none⟩ = some (.int .i16 a1_2) := (blk_cell BK102.out 2).trans rfl; have hfz40_0 := blk_frozen BK102.out 0; have hfz40_1 := blk_frozen BK102.out 1; have hfz40_2 := blk_frozen BK102.out 2) | (go_at_call 49; (with_reducible refine (impl_Gate_isPair.calls a1_0 a1_1 a1_2 true _ A27.out).mono ?_); rintro e w41 ⟨rfl, hb⟩; have n0_ := Aside0.mk (blk_below (g := gb101) (o := .cells #[.int .i8 a0_0, .slice A0_1 l0_1.length c0_1, .slice A0_2 l0_2.length c0_2] 30 (0, 0)) (by (with_reducible repeat (first | refine blk_drewN ?_ _ | refine blk_drew ?_ | refine blk_alloc ?_ _)); exact BK101.out) hb); have n1_ := Aside0.mk (blk_below (g := gb102) (o := .cells #[.int .i8 a1_0, .int .i16 a1_1, .int .i16 a1_2] 68 (0, 0)) (by (with_reducible repeat (first | refine blk_drewN ?_ _ | refine blk_drew ?_ | refine blk_alloc ?_ _)); exact BK102.out) hb); have n2_ := Aside0.mk (below_step (by repeat (first | (with_reducible first | exact HB.out | apply below_alloc | apply pw_below_drewN | apply below_drew1 | refine below_set ?_ GE101.out | refine below_set ?_ GE102.out) | exact HB.out)) hb); clear BK101; clear BK102; clear HB; have BK101 := n0_; have BK102 := n1_; have HB := n2_; clear n0_ n1_ n2_; (try clear hb); (try clear hb2); (try clear hk); (try clear hi)) | (go_at_call 48; (with_reducible refine (impl_within.calls (wrap64 (a1_1)) 0 (wrap64 (a2 - 1)) false _ A29.out).mono ?_); rintro e w' ⟨rfl, ⟨nd, rfl⟩⟩; (try first | exact ⟨rfl, _, World.drewN_drewN _ _ _⟩ | exact ⟨rfl, _, Eq.trans (World.drewN_drewN _ _ _) (congrArg (World.drewN _) (Nat.add_assoc _ _ _))⟩))); try go_wp2_with (first | ((with_reducible refine gate_dst (N := 3) rfl ?_); refine box_event ?hg (N := 3) ?hd (cs := #[.int .i8 a0_0, .slice A0_1 l0_1.length c0_1, .slice A0_2 l0_2.length c0_2]) (t := 30) ?hr ?_; (case hd => rfl); (case hg => rfl); (case hr => first | (go_simp; done) | (go_simp; rfl)); intro gb101 hg w37 hbox hb; have n0_ := Aside0.mk (below_step (by repeat (first | (with_reducible first | exact HB.out | apply below_alloc | apply pw_below_drewN | apply below_drew1) | exact HB.out)) hb); have n1_ := Aside0.mk (hbox); have n2_ := Aside0.mk ((by rw [hg]; exact (below_size (by repeat (first | (with_reducible first | exact HB.out | apply below_alloc | apply pw_below_drewN | apply below_drew1) | exact HB.out))) : w.heap.size ≤ gb101)); have n3_ := Aside0.mk ((by rw [hg]; exact (below_size (by repeat (first | (with_reducible first | exact HB.out | apply below_alloc | apply pw_below_drewN | apply below_drew1) | exact HB.out))) : w.heap.size ≤ gb101)); clear HB; have HB := n0_; have BK101 := n1_; have GW101 := n2_; have GE101 := n3_; clear n0_ n1_ n2_ n3_; clear hb hbox hg) | ((with_reducible refine gate_dst (N := 4) rfl ?_); refine box_event ?hg (N := 4) ?hd (cs := #[.int .i8 a1_0, .int .i16 a1_1, .int .i16 a1_2]) (t := 68) ?hr ?_; (case hd => rfl); (case hg => rfl); (case hr => first | (go_simp; done) | (go_simp; rfl)); intro gb102 hg w38 hbox hb; have n0_ := Aside0.mk (blk_below (g := gb101) (o := .cells #[.int .i8 a0_0, .slice A0_1 l0_1.length c0_1, .slice A0_2 l0_2.length c0_2] 30 (0, 0)) (by (with_reducible repeat (first | refine blk_drewN ?_ _ | refine blk_drew ?_ | refine blk_alloc ?_ _)); exact BK101.out) hb); have n1_ := Aside0.mk (below_step (by repeat (first | (with_reducible first | exact HB.out | apply below_alloc | apply pw_below_drewN | apply below_drew1 | refine below_set ?_ GE101.out) | exact HB.out)) hb); have n2_ := Aside0.mk (hbox); have n3_ := Aside0.mk ((by rw [hg]; exact (below_size (by repeat (first | (with_reducible first | exact HB.out | apply below_alloc | apply pw_below_drewN | apply below_drew1 | refine below_set ?_ GE101.out) | exact HB.out))) : w.heap.size ≤ gb102)); have n4_ := Aside0.mk ((by rw [hg]; exact (below_size (by repeat (first | (with_reducible first | exact HB.out | apply below_alloc | apply pw_below_drewN | apply below_drew1 | refine below_set ?_ GE101.out) | exact HB.out))) : w.heap.size ≤ gb102)); have n5_ := Aside0.mk ((by rw [hg]; exact Nat.ne_of_lt (blk_lt (g := gb101) (o := .cells #[.int .i8 a0_0, .slice A0_1 l0_1.length c0_1, .slice A0_2 l0_2.length c0_2] 30 (0, 0)) (by (with_reducible repeat (first | refine blk_drewN ?_ _ | refine blk_drew ?_ | refine blk_alloc ?_ _)); exact BK101.out)) : gb101 ≠ gb102)); have n6_ := Aside0.mk ((by rw [hg]; exact Nat.ne_of_gt (blk_lt (g := gb101) (o := .cells #[.int .i8 a0_0, .slice A0_1 l0_1.length c0_1, .slice A0_2 l0_2.length c0_2] 30 (0, 0)) (by (with_reducible repeat (first | refine blk_drewN ?_ _ | refine blk_drew ?_ | refine blk_alloc ?_ _)); exact BK101.out)) : gb102 ≠ gb101)); clear BK101; clear HB; have BK101 := n0_; have HB := n1_; have BK102 := n2_; have GW102 := n3_; have GE102 := n4_; have NB101_102 := n5_; have NB102_101 := n6_; clear n0_ n1_ n2_ n3_ n4_ n5_ n6_; clear hb hbox hg; have hnb39 := NB102_101.out; have hnc39 := NB101_102.out; have hcz40_0 : w38.cell? ⟨gb102, 0, none⟩ = some (.int .i8 a1_0) := (blk_cell BK102.out 0).trans rfl; have hcz40_1 : w38.cell? ⟨gb102, 1, none⟩ = some (.int .i16 a1_1) := (blk_cell BK102.out 1).trans rfl; have hcz40_2 : w38.cell? ⟨gb102, 2, none⟩ = some (.int .i16 a1_2) := (blk_cell BK102.out 2).trans rfl; have hfz40_0 := blk_frozen BK102.out 0; have hfz40_1 := blk_frozen BK102.out 1; have hfz40_2 := blk_frozen BK102.out 2) | (go_at_call 49; (with_reducible refine (impl_Gate_isPair.calls a1_0 a1_1 a1_2 true _ A27.out).mono ?_); rintro e w41 ⟨rfl, hb⟩; have n0_ := Aside0.mk (blk_below (g := gb101) (o := .cells #[.int .i8 a0_0, .slice A0_1 l0_1.length c0_1, .slice A0_2 l0_2.length c0_2] 30 (0, 0)) (by (with_reducible repeat (first | refine blk_drewN ?_ _ | refine blk_drew ?_ | refine blk_alloc ?_ _)); exact BK101.out) hb); have n1_ := Aside0.mk (blk_below (g := gb102) (o := .cells #[.int .i8 a1_0, .int .i16 a1_1, .int .i16 a1_2] 68 (0, 0)) (by (with_reducible repeat (first | refine blk_drewN ?_ _ | refine blk_drew ?_ | refine blk_alloc ?_ _)); exact BK102.out) hb); have n2_ := Aside0.mk (below_step (by repeat (first | (with_reducible first | exact HB.out | apply below_alloc | apply pw_below_drewN | apply below_drew1 | refine below_set ?_ GE101.out | refine below_set ?_ GE102.out) | exact HB.out)) hb); clear BK101; clear BK102; clear HB; have BK101 := n0_; have BK102 := n1_; have HB := n2_; clear n0_ n1_ n2_; (try clear hb); (try clear hb2); (try clear hk); (try clear hi)) | (go_at_call 48; (with_reducible refine (impl_within.calls (wrap64 (a1_1)) 0 (wrap64 (a2 - 1)) false _ A29.out).mono ?_); rintro e w' ⟨rfl, ⟨nd, rfl⟩⟩; (try first | exact ⟨rfl, _, World.drewN_drewN _ _ _⟩ | exact ⟨rfl, _, Eq.trans (World.drewN_drewN _ _ _) (congrArg (World.drewN _) (Nat.add_assoc _ _ _))⟩))))
          go_ret
          exact ⟨by first | rfl | (simp [errW_none, errW_some] <;> rfl) | (simp [*, errW_none, errW_some] <;> rfl), by repeat (first | (with_reducible first | exact HB.out | apply below_alloc | apply pw_below_drewN | apply below_drew1 | refine below_set ?_ GE101.out | refine below_set ?_ GE102.out) | exact HB.out)⟩
      · replace c28 := Bool.eq_false_iff.mpr c28
        subst c28
        have H1 : (some false) = some r := by rw [if_neg (show ¬ (false = true) by decide)] at H; exact H
        clear H
        have H := H1
        clear H1
        obtain rfl := Option.some.inj H
        go_enter Try.func83, Try.ntmps83
        go_wp2_with (first | ((with_reducible refine gate_dst (N := 3) rfl ?_); refine box_event ?hg (N := 3) ?hd (cs := #[.int .i8 a0_0, .slice A0_1 l0_1.length c0_1, .slice A0_2 l0_2.length c0_2]) (t := 30) ?hr ?_; (case hd => rfl); (case hg => rfl); (case hr => first | (go_simp; done) | (go_simp; rfl)); intro gb101 hg w42 hbox hb; have n0_ := Aside0.mk (below_step (by repeat (first | (with_reducible first | exact HB.out | apply below_alloc | apply pw_below_drewN | apply below_drew1) | exact HB.out)) hb); have n1_ := Aside0.mk (hbox); have n2_ := Aside0.mk ((by rw [hg]; exact (below_size (by repeat (first | (with_reducible first | exact HB.out | apply below_alloc | apply pw_below_drewN | apply below_drew1) | exact HB.out))) : w.heap.size ≤ gb101)); have n3_ := Aside0.mk ((by rw [hg]; exact (below_size (by repeat (first | (with_reducible first | exact HB.out | apply below_alloc | apply pw_below_drewN | apply below_drew1) | exact HB.out))) : w.heap.size ≤ gb101)); clear HB; have HB := n0_; have BK101 := n1_; have GW101 := n2_; have GE101 := n3_; clear n0_ n1_ n2_ n3_; clear hb hbox hg) | ((with_reducible refine gate_dst (N := 4) rfl ?_); refine box_event ?hg (N := 4) ?hd (cs := #[.int .i8 a1_0, .int .i16 a1_1, .int .i16 a1_2]) (t := 68) ?hr ?_; (case hd => rfl); (case hg => rfl); (case hr => first | (go_simp; done) | (go_simp; rfl)); intro gb102 hg w43 hbox hb; have n0_ := Aside0.mk (blk_below (g := gb101) (o := .cells #[.int .i8 a0_0, .slice A0_1 l0_1.length c0_1, .slice A0_2 l0_2.length c0_2] 30 (0, 0)) (by (with_reducible repeat (first | refine blk_drewN ?_ _ | refine blk_drew ?_ | refine blk_alloc ?_ _)); exact BK101.out) hb); have n1_ := Aside0.mk (below_step (by repeat (first | (with_reducible first | exact HB.out | apply below_alloc | apply pw_below_drewN | apply below_drew1 | refine below_set ?_ GE101.out) | exact HB.out)) hb); have n2_ := Aside0.mk (hbox); have n3_ := Aside0.mk ((by rw [hg]; exact (below_size (by repeat (first | (with_reducible first | exact HB.out | apply below_alloc | apply pw_below_drewN | apply below_drew1 | refine below_set ?_ GE101.out) | exact HB.out))) : w.heap.size ≤ gb102)); have n4_ := Aside0.mk ((by rw [hg]; exact (below_size (by repeat (first | (with_reducible first | exact HB.out | apply below_alloc | apply pw_below_drewN | apply below_drew1 | refine below_set ?_ GE101.out) | exact HB.out))) : w.heap.size ≤ gb102)); have n5_ := Aside0.mk ((by rw [hg]; exact Nat.ne_of_lt (blk_lt (g := gb101) (o := .cells #[.int .i8 a0_0, .slice A0_1 l0_1.length c0_1, .slice A0_2 l0_2.length c0_2] 30 (0, 0)) (by (with_reducible repeat (first | refine blk_drewN ?_ _ | refine blk_drew ?_ | refine blk_alloc ?_ _)); exact BK101.out)) : gb101 ≠ gb102)); have n6_ := Aside0.mk ((by rw [hg]; exact Nat.ne_of_gt (blk_lt (g := gb101) (o := .cells #[.int .i8 a0_0, .slice A0_1 l0_1.length c0_1, .slice A0_2 l0_2.length c0_2] 30 (0, 0)) (by (with_reducible repeat (first | refine blk_drewN ?_ _ | refine blk_drew ?_ | refine blk_alloc ?_ _)); exact BK101.out)) : gb102 ≠ gb101)); clear BK101; clear HB; have BK101 := n0_; have HB := n1_; have BK102 := n2_; have GW102 := n3_; have GE102 := n4_; have NB101_102 := n5_; have NB102_101 := n6_; clear n0_ n1_ n2_ n3_ n4_ n5_ n6_; clear hb hbox hg; have hnb44 := NB102_101.out; have hnc44 := NB101_102.out; have hcz45_0 : w43.cell? ⟨gb102, 0, none⟩ = some (.int .i8 a1_0) := (blk_cell BK102.out 0).trans rfl; have hcz45_1 : w43.cell? ⟨gb102, 1, none⟩ = some (.int .i16 a1_1) := (blk_cell BK102.out 1).trans rfl; have hcz45_2 : w43.cell? ⟨gb102, 2, none⟩ = some (.int .i16 a1_2) := (blk_cell BK102.out 2).trans rfl; have hfz45_0 := blk_frozen BK102.out 0; have hfz45_1 := blk_frozen BK102.out 1; have hfz45_2 := blk_frozen BK102.out 2) | (go_at_call 49; (with_reducible refine (impl_Gate_isPair.calls a1_0 a1_1 a1_2 false _ A27.out).mono ?_); rintro e w46 ⟨rfl, hb⟩; have n0_ := Aside0.mk (blk_below (g := gb101) (o := .cells #[.int .i8 a0_0, .slice A0_1 l0_1.length c0_1, .slice A0_2 l0_2.length c0_2] 30 (0, 0)) (by (with_reducible repeat (first | refine blk_drewN ?_ _ | refine blk_drew ?_ | refine blk_alloc ?_ _)); exact BK101.out) hb); have n1_ := Aside0.mk (blk_below (g := gb102) (o := .cells #[.int .i8 a1_0, .int .i16 a1_1, .int .i16 a1_2] 68 (0, 0)) (by (with_reducible repeat (first | refine blk_drewN ?_ _ | refine blk_drew ?_ | refine blk_alloc ?_ _)); exact BK102.out) hb); have n2_ := Aside0.mk (below_step (by repeat (first | (with_reducible first | exact HB.out | apply below_alloc | apply pw_below_drewN | apply below_drew1 | refine below_set ?_ GE101.out | refine below_set ?_ GE102.out) | exact HB.out)) hb); clear BK101; clear BK102; clear HB; have BK101 := n0_; have BK102 := n1_; have HB := n2_; clear n0_ n1_ n2_; (try clear hb); (try clear hb2); (try clear hk); (try clear hi)))
        repeat (go_quiet (first | ((with_reducible refine gate_dst (N := 3) rfl ?_); refine box_event ?hg (N := 3) ?hd (cs := #[.int .i8 a0_0, .slice A0_1 l0_1.length c0_1, .slice A0_2 l0_2.length c0_2]) (t := 30) ?hr ?_; (case hd => rfl); (case hg => rfl); (case hr => first | (go_simp; done) | (go_simp; rfl)); intro gb101 hg w42 hbox hb; have n0_ := Aside0.mk (below_step (by repeat (first | (with_reducible first | exact HB.out | apply below_alloc | apply pw_below_drewN | apply below_drew1) | exact HB.out)) hb); have n1_ := Aside0.mk (hbox); have n2_ := Aside0.mk ((by rw [hg]; exact (below_size (by repeat (first | (with_reducible first | exact HB.out | apply below_alloc | apply pw_below_drewN | apply below_drew1) | exact HB.out))) : w.heap.size ≤ gb101)); have n3_ := Aside0.mk ((by rw [hg]; exact (below_size (by repeat (first | (with_reducible first | exact HB.out | apply below_alloc | apply pw_below_drewN | apply below_drew1) | exact HB.out))) : w.heap.size ≤ gb101)); clear HB; have HB := n0_; have BK101 := n1_; have GW101 := n2_; have GE101 := n3_; clear n0_ n1_ n2_ n3_; clear hb hbox hg) | ((with_reducible refine gate_dst (N := 4) rfl ?_); refine box_event ?hg (N := 4) ?hd (cs := #[.int .i8 a1_0, .int .i16 a1_1, .int .i16 a1_2]) (t := 68) ?hr ?_; (case hd => rfl); (case hg => rfl); (case hr => first | (go_simp; done) | (go_simp; rfl)); intro gb102 hg w43 hbox hb; have n0_ := Aside0.mk (blk_below (g := gb101) (o := .cells #[.int .i8 a0_0, .slice A0_1 l0_1.length c0_1, .slice A0_2 l0_2.length c0_2] 30 (0, 0)) (by (with_reducible repeat (first | refine blk_drewN ?_ _ | refine blk_drew ?_ | refine blk_alloc ?_ _)); exact BK101.out) hb); have n1_ := Aside0.mk (below_step (by repeat (first | (with_reducible first | exact HB.out | apply below_alloc | apply pw_below_drewN | apply below_drew1 | refine below_set ?_ GE101.out) | exact HB.out)) hb); have n2_ := Aside0.mk (hbox); have n3_ := Aside0.mk ((by rw [hg]; exact (below_size (by repeat (first | (with_reducible first | exact HB.out | apply below_alloc | apply pw_below_drewN | apply below_drew1 | refine below_set ?_ GE101.out) | exact HB.out))) : w.heap.size ≤ gb102)); have n4_ := Aside0.mk ((by rw [hg]; exact (below_size (by repeat (first | (with_reducible first | exact HB.out | apply below_alloc | apply pw_below_drewN | apply below_drew1 | refine below_set ?_ GE101.out) | exact HB.out))) : w.heap.size ≤ gb102)); have n5_ := Aside0.mk ((by rw [hg]; exact Nat.ne_of_lt (blk_lt (g := gb101) (o := .cells #[.int .i8 a0_0, .slice A0_1 l0_1.length c0_1, .slice A0_2 l0_2.length c0_2] 30 (0, 0)) (by (with_reducible repeat (first | refine blk_drewN ?_ _ | refine blk_drew ?_ | refine blk_alloc ?_ _)); exact BK101.out)) : gb101 ≠ gb102)); have n6_ := Aside0.mk ((by rw [hg]; exact Nat.ne_of_gt (blk_lt (g := gb101) (o := .cells #[.int .i8 a0_0, .slice A0_1 l0_1.length c0_1, .slice A0_2 l0_2.length c0_2] 30 (0, 0)) (by (with_reducible repeat (first | refine blk_drewN ?_ _ | refine blk_drew ?_ | refine blk_alloc ?_ _)); exact BK101.out)) : gb102 ≠ gb101)); clear BK101; clear HB; have BK101 := n0_; have HB := n1_; have BK102 := n2_; have GW102 := n3_; have GE102 := n4_; have NB101_102 := n5_; have NB102_101 := n6_; clear n0_ n1_ n2_ n3_ n4_ n5_ n6_; clear hb hbox hg; have hnb44 := NB102_101.out; have hnc44 := NB101_102.out; have hcz45_0 : w43.cell? ⟨gb102, 0, none⟩ = some (.int .i8 a1_0) := (blk_cell BK102.out 0).trans rfl; have hcz45_1 : w43.cell? ⟨gb102, 1, none⟩ = some (.int .i16 a1_1) := (blk_cell BK102.out 1).trans rfl; have hcz45_2 : w43.cell? ⟨gb102, 2, none⟩ = some (.int .i16 a1_2) := (blk_cell BK102.out 2).trans rfl; have hfz45_0 := blk_frozen BK102.out 0; have hfz45_1 := blk_frozen BK102.out 1; have hfz45_2 := blk_frozen BK102.out 2) | (go_at_call 49; (with_reducible refine (impl_Gate_isPair.calls a1_0 a1_1 a1_2 false _ A27.out).mono ?_); rintro e w46 ⟨rfl, hb⟩; have n0_ := Aside0.mk (blk_below (g := gb101) (o := .cells #[.int .i8 a0_0, .slice A0_1 l0_1.length c0_1, .slice A0_2 l0_2.length c0_2] 30 (0, 0)) (by (with_reducible repeat (first | refine blk_drewN ?_ _ | refine blk_drew ?_ | refine blk_alloc ?_ _)); exact BK101.out) hb); have n1_ := Aside0.mk (blk_below (g := gb102) (o := .cells #[.int .i8 a1_0, .int .i16 a1_1, .int .i16 a1_2] 68 (0, 0)) (by (with_reducible repeat (first | refine blk_drewN ?_ _ | refine blk_drew ?_ | refine blk_alloc ?_ _)); exact BK102.out) hb); have n2_ := Aside0.mk (below_step (by repeat (first | (with_reducible first | exact HB.out | apply below_alloc | apply pw_below_drewN | apply below_drew1 | refine below_set ?_ GE101.out | refine below_set ?_ GE102.out) | exact HB.out)) hb); clear BK101; clear BK102; clear HB; have BK101 := n0_; have BK102 := n1_; have HB := n2_; clear n0_ n1_ n2_; (try clear hb); (try clear hb2); (try clear hk); (try clear hi))); try go_wp2_with (first | ((with_reducible refine gate_dst (N := 3) rfl ?_); refine box_event ?hg (N := 3) ?hd (cs := #[.int .i8 a0_0, .slice A0_1 l0_1.length c0_1, .slice A0_2 l0_2.length c0_2]) (t := 30) ?hr ?_; (case hd => rfl); (case hg => rfl); (case hr => first | (go_simp; done) | (go_simp; rfl)); intro gb101 hg w42 hbox hb; have n0_ := Aside0.mk (below_step (by repeat (first | (with_reducible first | exact HB.out | apply below_alloc | apply pw_below_drewN | apply below_drew1) | exact HB.out)) hb); have n1_ := Aside0.mk (hbox); have n2_ := Aside0.mk ((by rw [hg]; exact (below_size (by repeat (first | (with_reducible first | exact HB.out | apply below_alloc | apply pw_below_drewN | apply below_drew1) | exact HB.out))) : w.heap.size ≤ gb101)); have n3_ := Aside0.mk ((by rw [hg]; exact (below_size (by repeat (first | (with_reducible first | exact HB.out | apply below_alloc | apply pw_below_drewN | apply below_drew1) | exact HB.out))) : w.heap.size ≤ gb101)); clear HB; have HB := n0_; have BK101 := n1_; have GW101 := n2_; have GE101 := n3_; clear n0_ n1_ n2_ n3_; clear hb hbox hg) | ((with_reducible refine gate_dst (N := 4) rfl ?_); refine box_event ?hg (N := 4) ?hd (cs := #[.int .i8 a1_0, .int .i16 a1_1, .int .i16 a1_2]) (t := 68) ?hr ?_; (case hd => rfl); (case hg => rfl); (case hr => first | (go_simp; done) | (go_simp; rfl)); intro gb102 hg w43 hbox hb; have n0_ := Aside0.mk (blk_below (g := gb101) (o := .cells #[.int .i8 a0_0, .slice A0_1 l0_1.length c0_1, .slice A0_2 l0_2.length c0_2] 30 (0, 0)) (by (with_reducible repeat (first | refine blk_drewN ?_ _ | refine blk_drew ?_ | refine blk_alloc ?_ _)); exact BK101.out) hb); have n1_ := Aside0.mk (below_step (by repeat (first | (with_reducible first | exact HB.out | apply below_alloc | apply pw_below_drewN | apply below_drew1 | refine below_set ?_ GE101.out) | exact HB.out)) hb); have n2_ := Aside0.mk (hbox); have n3_ := Aside0.mk ((by rw [hg]; exact (below_size (by repeat (first | (with_reducible first | exact HB.out | apply below_alloc | apply pw_below_drewN | apply below_drew1 | refine below_set ?_ GE101.out) | exact HB.out))) : w.heap.size ≤ gb102)); have n4_ := Aside0.mk ((by rw [hg]; exact (below_size (by repeat (first | (with_reducible first | exact HB.out | apply below_alloc | apply pw_below_drewN | apply below_drew1 | refine below_set ?_ GE101.out) | exact HB.out))) : w.heap.size ≤ gb102)); have n5_ := Aside0.mk ((by rw [hg]; exact Nat.ne_of_lt (blk_lt (g := gb101) (o := .cells #[.int .i8 a0_0, .slice A0_1 l0_1.length c0_1, .slice A0_2 l0_2.length c0_2] 30 (0, 0)) (by (with_reducible repeat (first | refine blk_drewN ?_ _ | refine blk_drew ?_ | refine blk_alloc ?_ _)); exact BK101.out)) : gb101 ≠ gb102)); have n6_ := Aside0.mk ((by rw [hg]; exact Nat.ne_of_gt (blk_lt (g := gb101) (o := .cells #[.int .i8 a0_0, .slice A0_1 l0_1.length c0_1, .slice A0_2 l0_2.length c0_2] 30 (0, 0)) (by (with_reducible repeat (first | refine blk_drewN ?_ _ | refine blk_drew ?_ | refine blk_alloc ?_ _)); exact BK101.out)) : gb102 ≠ gb101)); clear BK101; clear HB; have BK101 := n0_; have HB := n1_; have BK102 := n2_; have GW102 := n3_; have GE102 := n4_; have NB101_102 := n5_; have NB102_101 := n6_; clear n0_ n1_ n2_ n3_ n4_ n5_ n6_; clear hb hbox hg; have hnb44 := NB102_101.out; have hnc44 := NB101_102.out; have hcz45_0 : w43.cell? ⟨gb102, 0, none⟩ = some (.int .i8 a1_0) := (blk_cell BK102.out 0).trans rfl; have hcz45_1 : w43.cell? ⟨gb102, 1, none⟩ = some (.int .i16 a1_1) := (blk_cell BK102.out 1).trans rfl; have hcz45_2 : w43.cell? ⟨gb102, 2, none⟩ = some (.int .i16 a1_2) := (blk_cell BK102.out 2).trans rfl; have hfz45_0 := blk_frozen BK102.out 0; have hfz45_1 := blk_frozen BK102.out 1; have hfz45_2 := blk_frozen BK102.out 2) | (go_at_call 49; (with_reducible refine (impl_Gate_isPair.calls a1_0 a1_1 a1_2 false _ A27.out).mono ?_); rintro e w46 ⟨rfl, hb⟩; have n0_ := Aside0.mk (blk_below (g := gb101) (o := .cells #[.int .i8 a0_0, .slice A0_1 l0_1.length c0_1, .slice A0_2 l0_2.length c0_2] 30 (0, 0)) (by (with_reducible repeat (first | refine blk_drewN ?_ _ | refine blk_drew ?_ | refine blk_alloc ?_ _)); exact BK101.out) hb); have n1_ := Aside0.mk (blk_below (g := gb102) (o := .cells #[.int .i8 a1_0, .int .i16 a1_1, .int .i16 a1_2] 68 (0, 0)) (by (with_reducible repeat (first | refine blk_drewN ?_ _ | refine blk_drew ?_ | refine blk_alloc ?_ _)); exact BK102.out) hb); have n2_ := Aside0.mk (below_step (by repeat (first | (with_reducible first | exact HB.out | apply below_alloc | apply pw_below_drewN | apply below_drew1 | refine below_set ?_ GE101.out | refine below_set ?_ GE102.out) | exact HB.out)) hb); clear BK101; clear BK102; clear HB; have BK101 := n0_; have BK102 := n1_; have HB := n2_; clear n0_ n1_ n2_; (try clear hb); (try clear hb2); (try clear hk); (try clear hi))))
        go_ret
        exact ⟨by first | rfl | (simp [errW_none, errW_some] <;> rfl) | (simp [*, errW_none, errW_some] <;> rfl), by repeat (first | (with_reducible first | exact HB.out | apply below_alloc | apply pw_below_drewN | apply below_drew1 | refine below_set ?_ GE101.out | refine below_set ?_ GE102.out) | exact HB.out)⟩
end Go.Proofs.Yteanndgkjoinmaa.X

-- Laid by wip/xprint.py of this session (the kit's print program, with some contracts given by hand). Not trusted: Lean checks it.
namespace Go.Proofs.Yteanndgkjoinmaa.X
open Go.RowKit Go.Proofs.YteanndgkjoinmaaW.PrintWords Go.Proofs.YteanndgkjoinmaaW.PrintLast Go.Proofs.YteanndgkjoinmaaW.PrintMore
attribute [local go_sem] max2_int min2_int max_two min_two max_three min_three max_four min_four
set_option linter.unusedVariables false
set_option linter.unusedSimpArgs false
def slices_ContainsFunc_int16_int16.f (l0 : List Int) (p : Int → Option Bool) : Option Bool := anyO p l0
set_option maxHeartbeats 8000000 in
set_option maxRecDepth 100000 in
theorem slices_ContainsFunc_int16_int16.idx (A0 : Option Addr) (c0 : Nat) (l0 : List Int) (g : Nat) (lb : Array Value) (eg : ∀ (xs : Array Value) (W : World), (callFunc g xs).run Try.prog W = .ok (.enter g xs) W) (p : Int → Option Bool) (r : Int) (w : World) (hr0 : Kd.C (Kd.int .i16) w A0 l0.length l0) (hc0 : l0.length ≤ c0) (hp : ∀ (W : World) (x : Int) (b : Bool), Below w.heap.size w W → p x = some b → Calls Try.prog g (#[.int .i16 x] ++ lb) W fun e w' => e = .returned (.bool b) ∧ Below W.heap.size W w') (h : idxO p 0 l0 = some r) :
    Calls Try.prog 97 #[.slice A0 l0.length c0, .func (.func g) #[] lb] w fun e w' => e = .returned (.int .i64 r) ∧ Below w.heap.size w w' := by
  have hn := hr0.2.1
  have HR := Aside0.mk hr0
  have HP := Aside0.mk hp
  clear hr0 hc0 hp
  have H' := Aside0.mk h
  clear h
  go_enter Try.func97, Try.ntmps97
  go_wp2
  go_loopg [5, 8] l0.length (fun gq v5 v8 w' => ∃ i : Nat, v8 = .int .i64 i ∧ Aside0 (i ≤ l0.length) ∧ Aside0 (l0.length - i ≤ gq) ∧ Aside0 (idxO p i (l0.drop i) = some r) ∧ Aside0 (Below w.heap.size w w'))
  case atStart => exact ⟨0, rfl, ⟨Nat.zero_le _⟩, ⟨by omega⟩, ⟨by simpa using H'.out⟩, ⟨Below.refl _ _⟩⟩
  case round =>
    clear H'
    obtain ⟨i, rfl, HI, HG, HA, HB⟩ := hrel
    have hi := HI.out
    by_cases hlt : i < l0.length
    · have hd := HA.out
      rw [idxO_drop p 0 l0 i hlt] at hd
      obtain ⟨b, hb, hd⟩ := Option.bind_eq_some_iff.mp hd
      have hltz : (i : Int) < (l0.length : Int) := by omega
      obtain ⟨ad, e, hx⟩ := Kd.at_int HR.out (i : Int) (by omega) (by omega)
      cases e
      replace hx := (HB.out.cell (World.block_lt_of_cell? w _ hx)).trans hx
      simp only [Int.toNat_natCast] at hx
      have hcall := Aside0.mk (HP.out _ (rd l0 (i : Int)) b HB.out (by simpa [rd] using hb))
      have HD := Aside0.mk hd
      clear hd hb HA
      cases b with
      | true =>
        go_wp2_with (refine hcall.out.mono ?_; rintro e w2 ⟨rfl, hb2⟩)
        go_ret
        have e1 : (i : Int) = r := by simpa using HD.out
        exact ⟨by rw [← e1]; rfl, below_step HB.out hb2⟩
      | false =>
        go_wp2_with (refine hcall.out.mono ?_; rintro e w2 ⟨rfl, hb2⟩)
        have HB2 := Aside0.mk (below_step HB.out hb2)
        clear HB hb2
        go_roundg (l0.length - (i + 1))
        case measure => have := HG.out; omega
        case rel => exact ⟨i + 1, by go_num, ⟨by omega⟩, ⟨by omega⟩, ⟨by simpa using HD.out⟩, HB2⟩
    · have e : i = l0.length := by omega
      have hltz : ¬ (i : Int) < (l0.length : Int) := by omega
      have HE := Aside0.mk e
      clear e
      go_wp2
      go_ret
      have e1 : (-1 : Int) = r := by have := HA.out; rw [HE.out, List.drop_length] at this; simpa [idxO] using this
      exact ⟨by rw [← e1]; rfl, HB.out⟩
set_option maxHeartbeats 8000000 in
set_option maxRecDepth 100000 in
theorem slices_ContainsFunc_int16_int16.calls (A0 : Option Addr) (c0 : Nat) (l0 : List Int) (g : Nat) (lb : Array Value) (eg : ∀ (xs : Array Value) (W : World), (callFunc g xs).run Try.prog W = .ok (.enter g xs) W) (p : Int → Option Bool) (r : Bool) (w : World) (hr0 : Kd.C (Kd.int .i16) w A0 l0.length l0) (hc0 : l0.length ≤ c0) (hp : ∀ (W : World) (x : Int) (b : Bool), Below w.heap.size w W → p x = some b → Calls Try.prog g (#[.int .i16 x] ++ lb) W fun e w' => e = .returned (.bool b) ∧ Below W.heap.size W w') (h : slices_ContainsFunc_int16_int16.f l0 p = some r) :
    Calls Try.prog 84 #[.slice A0 l0.length c0, .func (.func g) #[] lb] w fun e w' => e = .returned (.bool r) ∧ Below w.heap.size w w' := by
  obtain ⟨j, hj, hr⟩ := anyO_idx p l0 0 r h
  have HC := Aside0.mk (slices_ContainsFunc_int16_int16.idx A0 c0 l0 g lb eg p j w hr0 hc0 hp hj)
  have HR := Aside0.mk hr
  clear hr0 hc0 hp h hj hr eg
  go_enter Try.func84, Try.ntmps84
  go_wp2_with (refine HC.out.mono ?_; rintro e w2 ⟨rfl, hb2⟩)
  go_ret
  exact ⟨by rw [HR.out]; rfl, hb2⟩
end Go.Proofs.Yteanndgkjoinmaa.X

-- Laid by wip/xprint.py of this session (the kit's print program, with some contracts given by hand). Not trusted: Lean checks it.
namespace Go.Proofs.Yteanndgkjoinmaa.X
open Go.RowKit Go.Proofs.YteanndgkjoinmaaW.PrintWords Go.Proofs.YteanndgkjoinmaaW.PrintLast Go.Proofs.YteanndgkjoinmaaW.PrintMore
attribute [local go_sem] max2_int min2_int max_two min_two max_three min_three max_four min_four
set_option linter.unusedVariables false
set_option linter.unusedSimpArgs false
def impl_ValidCircuit_1.f (a0 : Int) (a1_0 : Int) (l1_1 : List (S68)) (l1_2 : List Int) : Option (Bool) := (impl_within.f (wrap64 (a0)) 0 (wrap64 ((l1_1.length : Int) - 1))).bind fun t101 => (some (!t101))
set_option maxHeartbeats 8000000 in
set_option maxRecDepth 100000 in
theorem impl_ValidCircuit_1.calls (a0 : Int) (gro1 : Nat) (a1_0 : Int) (A1_1 : Option Addr) (c1_1 : Nat) (l1_1 : List (S68)) (A1_2 : Option Addr) (c1_2 : Nat) (l1_2 : List Int) (r : Bool) (w : World) (hbk1 : w.heap[gro1]? = some (.cells #[.int .i8 a1_0, .slice A1_1 l1_1.length c1_1, .slice A1_2 l1_2.length c1_2] 30 (0, 0))) (hr1_1 : Kd.C k68 w A1_1 l1_1.length l1_1) (hc1_1 : l1_1.length ≤ c1_1) (hr1_2 : Kd.C (Kd.int .i16) w A1_2 l1_2.length l1_2) (hc1_2 : l1_2.length ≤ c1_2) (h : impl_ValidCircuit_1.f a0 a1_0 l1_1 l1_2 = some r) :
    Calls Try.prog 85 #[.int .i16 a0, .pointer (some ⟨gro1, 0, none⟩)] w fun e w' => e = .returned (.bool r) ∧ Drawn0 w w' := by
  have HR1_1 := Aside0.mk hr1_1
  have HC1_1 := Aside0.mk hc1_1
  clear hr1_1 hc1_1
  have HR1_2 := Aside0.mk hr1_2
  have HC1_2 := Aside0.mk hc1_2
  clear hr1_2 hc1_2
  have BK1 := Aside0.mk hbk1
  clear hbk1
  have H : ((impl_within.f (wrap64 (a0)) 0 (wrap64 ((l1_1.length : Int) - 1))).bind fun t101 => (some (!t101))) = some r := h
  clear h
  replace H := Option.bind_eq_some_iff.mp H
  obtain ⟨t101, A30, H⟩ := H
  replace H : (some (!t101)) = some r := H
  have A3 := Aside0.mk A30
  clear A30
  obtain rfl := Option.some.inj H
  have hcz4_0 : w.cell? ⟨gro1, 0, none⟩ = some (.int .i8 a1_0) := (blk_cell BK1.out 0).trans rfl
  have hcz4_1 : w.cell? ⟨gro1, 1, none⟩ = some (.slice A1_1 l1_1.length c1_1) := (blk_cell BK1.out 1).trans rfl
  have hcz4_2 : w.cell? ⟨gro1, 2, none⟩ = some (.slice A1_2 l1_2.length c1_2) := (blk_cell BK1.out 2).trans rfl
  have hfz4_0 := blk_frozen BK1.out 0
  have hfz4_1 := blk_frozen BK1.out 1
  have hfz4_2 := blk_frozen BK1.out 2
  go_enter Try.func85, Try.ntmps85
  go_wp2_with (first | ((with_reducible refine gate_callee (f := 48) rfl ?_); refine goesL_ (some 10) rfl rfl Try.func48 (by kernel_rfl) rfl #[.int .i64 (wrap64 (a0)), .int .i64 0, .int .i64 (wrap64 ((l1_1.length : Int) - 1))] rfl (by (try simp only [List.map_toArray, List.map_cons, List.map_nil]); first | done | rfl | (simp only [List.length_drop, List.length_take]; rfl)) ?_; (with_reducible refine (impl_within.calls (wrap64 (a0)) 0 (wrap64 ((l1_1.length : Int) - 1)) t101 _ A3.out).mono ?_); rintro e w' ⟨rfl, ⟨nd, rfl⟩⟩; refine ⟨_, rfl, ?_⟩))
  go_ret
  exact ⟨by first | rfl | (simp; done) | (simp [*]; done), by repeat (first | exact Drawn0.refl _ | apply Drawn0.step)⟩
end Go.Proofs.Yteanndgkjoinmaa.X

-- Laid by wip/xprint.py of this session (the kit's print program, with some contracts given by hand). Not trusted: Lean checks it.
namespace Go.Proofs.Yteanndgkjoinmaa.X
open Go.RowKit Go.Proofs.YteanndgkjoinmaaW.PrintWords Go.Proofs.YteanndgkjoinmaaW.PrintLast Go.Proofs.YteanndgkjoinmaaW.PrintMore
attribute [local go_sem] max2_int min2_int max_two min_two max_three min_three max_four min_four
set_option linter.unusedVariables false
set_option linter.unusedSimpArgs false
mutual
def impl_ValidCircuit.j0 : Nat → Bool → Int → List (S68) → List Int → Option (Bool)
  | 0, _, _, _, _ => none
  | k + 1, x21, x102000, x102001, x102002 => if x21 = true then (some false) else (impl_ValidCircuit.l0 k x102001 (x102001.length : Int) 0 x102000 x102001 x102002)
def impl_ValidCircuit.l0 : Nat → List (S68) → Int → Int → Int → List (S68) → List Int → Option (Bool)
  | 0, _, _, _, _, _, _ => none
  | k + 1, x23, x24, x25, x102000, x102001, x102002 => if x25 < x24 then (if 0 ≤ x25 then (if x25 < (x23.length : Int) then ((impl_Circuit_isGate.f x102000 x102001 x102002 ((rd_T68 x23 x25).f0) ((rd_T68 x23 x25).f1) ((rd_T68 x23 x25).f2) x25).bind fun t105 => (if t105 = true then (impl_ValidCircuit.l0 k x23 x24 (wrap64 (x25 + 1)) x102000 x102001 x102002) else (some false))) else (none)) else (none)) else ((slices_ContainsFunc_int16_int16.f x102002 (fun x_ : Int => impl_ValidCircuit_1.f x_ x102000 x102001 x102002)).bind fun t106 => (some (!t106)))
end
def impl_ValidCircuit.f (k : Nat) (a0_0 : Int) (l0_1 : List (S68)) (l0_2 : List Int) : Option (Bool) := (impl_within.f (wrap64 (a0_0)) 0 16).bind fun t102 => (if t102 = true then (if (l0_1.length : Int) > 600 then (impl_ValidCircuit.j0 k true a0_0 l0_1 l0_2) else (impl_ValidCircuit.j0 k (decide ((l0_2.length : Int) > 16)) a0_0 l0_1 l0_2)) else (impl_ValidCircuit.j0 k true a0_0 l0_1 l0_2))
set_option maxHeartbeats 8000000 in
set_option maxRecDepth 100000 in
theorem impl_ValidCircuit.calls (k : Nat) (a0_0 : Int) (A0_1 : Option Addr) (c0_1 : Nat) (l0_1 : List (S68)) (A0_2 : Option Addr) (c0_2 : Nat) (l0_2 : List Int) (r : Bool) (w : World) (hr0_1 : Kd.C k68 w A0_1 l0_1.length l0_1) (hc0_1 : l0_1.length ≤ c0_1) (hr0_2 : Kd.C (Kd.int .i16) w A0_2 l0_2.length l0_2) (hc0_2 : l0_2.length ≤ c0_2) (h : impl_ValidCircuit.f k a0_0 l0_1 l0_2 = some r) :
    Calls Try.prog 35 #[.agg #[.int .i8 a0_0, .slice A0_1 l0_1.length c0_1, .slice A0_2 l0_2.length c0_2]] w fun e w' => e = .returned (.bool r) ∧ Below w.heap.size w w' := by
  have hu30 := Try.underlying30
  have hu68 := Try.underlying68
  have HR0_1 := Aside0.mk hr0_1
  have HC0_1 := Aside0.mk hc0_1
  clear hr0_1 hc0_1
  have HR0_2 := Aside0.mk hr0_2
  have HC0_2 := Aside0.mk hc0_2
  clear hr0_2 hc0_2
  have HB := Aside0.mk (Below.refl w.heap.size w)
  have H : ((impl_within.f (wrap64 (a0_0)) 0 16).bind fun t102 => (if t102 = true then (if (l0_1.length : Int) > 600 then (impl_ValidCircuit.j0 k true a0_0 l0_1 l0_2) else (impl_ValidCircuit.j0 k (decide ((l0_2.length : Int) > 16)) a0_0 l0_1 l0_2)) else (impl_ValidCircuit.j0 k true a0_0 l0_1 l0_2))) = some r := h
  clear h
  have HC2 := Aside0.mk H
  clear H
  go_enter Try.func35, Try.ntmps35
  go_upto_region 1 with (first | ((with_reducible refine gate_dst (N := 1) rfl ?_); (try (refine gate_guard (by rfl) ?_; dsimp only)); refine box_event ?hg (N := 1) ?hd (cs := #[.int .i8 a0_0, .slice A0_1 l0_1.length c0_1, .slice A0_2 l0_2.length c0_2]) (t := 30) ?hr ?_; (case hd => rfl); (case hg => rfl); (case hr => first | (go_simp; done) | (go_simp; rfl)); intro gb101 hg w3 hbox hb; have n0_ := Aside0.mk (below_step (by repeat (first | (with_reducible first | exact HB.out | apply below_alloc | apply pw_below_drewN | apply below_drew1) | exact HB.out)) hb); have n1_ := Aside0.mk (hbox); have n2_ := Aside0.mk ((by rw [hg]; exact (below_size (by repeat (first | (with_reducible first | exact HB.out | apply below_alloc | apply pw_below_drewN | apply below_drew1) | exact HB.out))) : w.heap.size ≤ gb101)); have n3_ := Aside0.mk ((by rw [hg]; exact (below_size (by repeat (first | (with_reducible first | exact HB.out | apply below_alloc | apply pw_below_drewN | apply below_drew1) | exact HB.out))) : w.heap.size ≤ gb101)); clear HB; have HB := n0_; have BK101 := n1_; have GW101 := n2_; have GE101 := n3_; clear n0_ n1_ n2_ n3_; clear hb hbox hg))
  (try simp only [Act.put, List.setIfInBounds_toArray, List.set_cons_zero, List.set_cons_succ])
  go_cut [21] (fun v21 wc => ∃ (kq : Nat) (x21_1 : Bool), v21 = .bool x21_1 ∧ Aside0 (impl_ValidCircuit.j0 kq x21_1 a0_0 l0_1 l0_2 = some r) ∧ Aside0 (kq ≤ k) ∧ Aside0 (wc.heap[gb101]? = some (.cells #[.int .i8 a0_0, (.slice A0_1 l0_1.length c0_1), (.slice A0_2 l0_2.length c0_2)] 30 (0, 0))) ∧ Aside0 (Below w.heap.size w wc))
  case first =>
    have H := HC2.out
    clear HC2
    replace H := Option.bind_eq_some_iff.mp H
    obtain ⟨t102, A40, H⟩ := H
    replace H : (if t102 = true then (if (l0_1.length : Int) > 600 then (impl_ValidCircuit.j0 k true a0_0 l0_1 l0_2) else (impl_ValidCircuit.j0 k (decide ((l0_2.length : Int) > 16)) a0_0 l0_1 l0_2)) else (impl_ValidCircuit.j0 k true a0_0 l0_1 l0_2)) = some r := H
    have A4 := Aside0.mk A40
    clear A40
    by_cases c5 : t102 = true
    · subst c5
      have H1 : (if (l0_1.length : Int) > 600 then (impl_ValidCircuit.j0 k true a0_0 l0_1 l0_2) else (impl_ValidCircuit.j0 k (decide ((l0_2.length : Int) > 16)) a0_0 l0_1 l0_2)) = some r := by rw [if_pos rfl] at H; exact H
      clear H
      have H := H1
      clear H1
      by_cases c6 : (l0_1.length : Int) > 600
      · rw [if_pos c6] at H
        have c6b0 : decide (600 < (l0_1.length : Int)) = true := decide_eq_true c6
        have c6b1 : decide (600 < l0_1.length) = true := decide_eq_true (by omega)
        clear c6
        (first | rw [c6b0] | (simp only [i64_w, i32_w]; rw [c6b0]) | skip)
        have H' := Aside0.mk H
        clear H
        have hcz7_0 : w3.cell? ⟨gb101, 0, none⟩ = some (.int .i8 a0_0) := (blk_cell BK101.out 0).trans rfl
        have hcz7_1 : w3.cell? ⟨gb101, 1, none⟩ = some (.slice A0_1 l0_1.length c0_1) := (blk_cell BK101.out 1).trans rfl
        have hcz7_2 : w3.cell? ⟨gb101, 2, none⟩ = some (.slice A0_2 l0_2.length c0_2) := (blk_cell BK101.out 2).trans rfl
        have hfz7_0 := blk_frozen BK101.out 0
        have hfz7_1 := blk_frozen BK101.out 1
        have hfz7_2 := blk_frozen BK101.out 2
        go_wp2_with (first | ((with_reducible refine gate_callee (f := 48) rfl ?_); refine goesL_ (some 8) rfl rfl Try.func48 (by kernel_rfl) rfl #[.int .i64 (wrap64 (a0_0)), .int .i64 0, .int .i64 16] rfl (by (try simp only [List.map_toArray, List.map_cons, List.map_nil]); first | done | rfl | (simp only [List.length_drop, List.length_take]; rfl)) ?_; (with_reducible refine (impl_within.calls (wrap64 (a0_0)) 0 16 true _ A4.out).mono ?_); rintro e w' ⟨rfl, ⟨nd, rfl⟩⟩; refine ⟨_, rfl, ?_⟩))
        go_meet
        case rel => exact ⟨_, (true), (by first | rfl | (simp; done) | (simp [*]; done)), H', ⟨by first | omega | exact Nat.le_refl _⟩, ⟨by (with_reducible repeat (first | refine blk_drewN ?_ _ | refine blk_drew ?_ | refine blk_alloc ?_ _)); exact BK101.out⟩, ⟨by repeat (first | (with_reducible first | exact HB.out | apply below_alloc | apply pw_below_drewN | apply below_drew1 | refine below_set ?_ GE101.out) | exact HB.out)⟩⟩
      · rw [if_neg c6] at H
        have c6b0 : decide (600 < (l0_1.length : Int)) = false := decide_eq_false c6
        have c6b1 : decide (600 < l0_1.length) = false := decide_eq_false (by omega)
        clear c6
        (first | rw [c6b0] | (simp only [i64_w, i32_w]; rw [c6b0]) | skip)
        have H' := Aside0.mk H
        clear H
        have hcz8_0 : w3.cell? ⟨gb101, 0, none⟩ = some (.int .i8 a0_0) := (blk_cell BK101.out 0).trans rfl
        have hcz8_1 : w3.cell? ⟨gb101, 1, none⟩ = some (.slice A0_1 l0_1.length c0_1) := (blk_cell BK101.out 1).trans rfl
        have hcz8_2 : w3.cell? ⟨gb101, 2, none⟩ = some (.slice A0_2 l0_2.length c0_2) := (blk_cell BK101.out 2).trans rfl
        have hfz8_0 := blk_frozen BK101.out 0
        have hfz8_1 := blk_frozen BK101.out 1
        have hfz8_2 := blk_frozen BK101.out 2
        go_wp2_with (first | ((with_reducible refine gate_callee (f := 48) rfl ?_); refine goesL_ (some 8) rfl rfl Try.func48 (by kernel_rfl) rfl #[.int .i64 (wrap64 (a0_0)), .int .i64 0, .int .i64 16] rfl (by (try simp only [List.map_toArray, List.map_cons, List.map_nil]); first | done | rfl | (simp only [List.length_drop, List.length_take]; rfl)) ?_; (with_reducible refine (impl_within.calls (wrap64 (a0_0)) 0 16 true _ A4.out).mono ?_); rintro e w' ⟨rfl, ⟨nd, rfl⟩⟩; refine ⟨_, rfl, ?_⟩))
        go_meet
        case rel => exact ⟨_, (decide ((l0_2.length : Int) > 16)), (by first | rfl | (simp; done) | (simp [*]; done)), H', ⟨by first | omega | exact Nat.le_refl _⟩, ⟨by (with_reducible repeat (first | refine blk_drewN ?_ _ | refine blk_drew ?_ | refine blk_alloc ?_ _)); exact BK101.out⟩, ⟨by repeat (first | (with_reducible first | exact HB.out | apply below_alloc | apply pw_below_drewN | apply below_drew1 | refine below_set ?_ GE101.out) | exact HB.out)⟩⟩
    · replace c5 := Bool.eq_false_iff.mpr c5
      subst c5
      have H1 : (impl_ValidCircuit.j0 k true a0_0 l0_1 l0_2) = some r := by rw [if_neg (show ¬ (false = true) by decide)] at H; exact H
      clear H
      have H := H1
      clear H1
      have H' := Aside0.mk H
      clear H
      have hcz9_0 : w3.cell? ⟨gb101, 0, none⟩ = some (.int .i8 a0_0) := (blk_cell BK101.out 0).trans rfl
      have hcz9_1 : w3.cell? ⟨gb101, 1, none⟩ = some (.slice A0_1 l0_1.length c0_1) := (blk_cell BK101.out 1).trans rfl
      have hcz9_2 : w3.cell? ⟨gb101, 2, none⟩ = some (.slice A0_2 l0_2.length c0_2) := (blk_cell BK101.out 2).trans rfl
      have hfz9_0 := blk_frozen BK101.out 0
      have hfz9_1 := blk_frozen BK101.out 1
      have hfz9_2 := blk_frozen BK101.out 2
      go_wp2_with (first | ((with_reducible refine gate_callee (f := 48) rfl ?_); refine goesL_ (some 8) rfl rfl Try.func48 (by kernel_rfl) rfl #[.int .i64 (wrap64 (a0_0)), .int .i64 0, .int .i64 16] rfl (by (try simp only [List.map_toArray, List.map_cons, List.map_nil]); first | done | rfl | (simp only [List.length_drop, List.length_take]; rfl)) ?_; (with_reducible refine (impl_within.calls (wrap64 (a0_0)) 0 16 false _ A4.out).mono ?_); rintro e w' ⟨rfl, ⟨nd, rfl⟩⟩; refine ⟨_, rfl, ?_⟩))
      go_meet
      case rel => exact ⟨_, (true), (by first | rfl | (simp; done) | (simp [*]; done)), H', ⟨by first | omega | exact Nat.le_refl _⟩, ⟨by (with_reducible repeat (first | refine blk_drewN ?_ _ | refine blk_drew ?_ | refine blk_alloc ?_ _)); exact BK101.out⟩, ⟨by repeat (first | (with_reducible first | exact HB.out | apply below_alloc | apply pw_below_drewN | apply below_drew1 | refine below_set ?_ GE101.out) | exact HB.out)⟩⟩
  case rest =>
    clear HC2
    try clear p2
    try clear c3
    try clear c4
    try clear c5
    try clear c6
    try clear c6b0
    try clear c6b1
    try clear p6
    try clear hcz7_0
    try clear hcz7_1
    try clear hcz7_2
    try clear hcz8_0
    try clear hcz8_1
    try clear hcz8_2
    try clear hcz9_0
    try clear hcz9_1
    try clear hcz9_2
    try clear hfz7_0
    try clear hfz7_1
    try clear hfz7_2
    try clear hfz8_0
    try clear hfz8_1
    try clear hfz8_2
    try clear hfz9_0
    try clear hfz9_1
    try clear hfz9_2
    obtain ⟨kq, x21_1, rfl, HA, HJ1, BK101, HB⟩ := hcut
    cases kq with
    | zero => exact absurd HA.out (by simp [impl_ValidCircuit.j0])
    | succ kj1 =>
      have H := HA.out
      clear HA
      simp only [impl_ValidCircuit.j0] at H
      by_cases c10 : x21_1 = true
      · subst c10
        have H1 : (some false) = some r := by rw [if_pos rfl] at H; exact H
        clear H
        have H := H1
        clear H1
        obtain rfl := Option.some.inj H
        go_wp2
        go_ret
        exact ⟨by first | rfl | (simp [errW_none, errW_some] <;> rfl) | (simp [*, errW_none, errW_some] <;> rfl), by repeat (first | (with_reducible first | exact HB.out | apply below_alloc | apply pw_below_drewN | apply below_drew1 | refine below_set ?_ GE101.out) | exact HB.out)⟩
      · replace c10 := Bool.eq_false_iff.mpr c10
        subst c10
        have H1 : (impl_ValidCircuit.l0 kj1 l0_1 (l0_1.length : Int) 0 a0_0 l0_1 l0_2) = some r := by rw [if_neg (show ¬ (false = true) by decide)] at H; exact H
        clear H
        have H := H1
        clear H1
        have H' := Aside0.mk H
        clear H
        have hcz11_0 : wc.cell? ⟨gb101, 0, none⟩ = some (.int .i8 a0_0) := (blk_cell BK101.out 0).trans rfl
        have hcz11_1 : wc.cell? ⟨gb101, 1, none⟩ = some (.slice A0_1 l0_1.length c0_1) := (blk_cell BK101.out 1).trans rfl
        have hcz11_2 : wc.cell? ⟨gb101, 2, none⟩ = some (.slice A0_2 l0_2.length c0_2) := (blk_cell BK101.out 2).trans rfl
        have hfz11_0 := blk_frozen BK101.out 0
        have hfz11_1 := blk_frozen BK101.out 1
        have hfz11_2 := blk_frozen BK101.out 2
        go_wp2
        go_loopg [25] kj1 (fun kq v25 w' => ∃ (x25_2 : Int), v25 = .int .i64 x25_2 ∧ Aside0 (impl_ValidCircuit.l0 kq l0_1 (l0_1.length : Int) x25_2 a0_0 l0_1 l0_2 = some r) ∧ Aside0 (kq ≤ kj1) ∧ Aside0 (w'.heap[gb101]? = some (.cells #[.int .i8 a0_0, (.slice A0_1 l0_1.length c0_1), (.slice A0_2 l0_2.length c0_2)] 30 (0, 0))) ∧ Aside0 (Below w.heap.size w w'))
        case atStart => exact ⟨(0), (by first | rfl | (simp; done) | (simp [*]; done)), H', ⟨Nat.le_refl _⟩, ⟨by (with_reducible repeat (first | refine blk_drewN ?_ _ | refine blk_drew ?_ | refine blk_alloc ?_ _)); exact BK101.out⟩, ⟨by repeat (first | (with_reducible first | exact HB.out | apply below_alloc | apply pw_below_drewN | apply below_drew1 | refine below_set ?_ GE101.out) | exact HB.out)⟩⟩
        case round =>
          clear H'
          try clear c1
          try clear p2
          try clear c3
          try clear c4
          try clear c5
          try clear c6
          try clear c6b0
          try clear c6b1
          try clear p6
          try clear c10
          try clear hcz11_0
          try clear hcz11_1
          try clear hcz11_2
          try clear hcz7_0
          try clear hcz7_1
          try clear hcz7_2
          try clear hcz8_0
          try clear hcz8_1
          try clear hcz8_2
          try clear hcz9_0
          try clear hcz9_1
          try clear hcz9_2
          try clear hfz11_0
          try clear hfz11_1
          try clear hfz11_2
          try clear hfz7_0
          try clear hfz7_1
          try clear hfz7_2
          try clear hfz8_0
          try clear hfz8_1
          try clear hfz8_2
          try clear hfz9_0
          try clear hfz9_1
          try clear hfz9_2
          try clear p2
          try clear p6
          obtain ⟨x25_2, rfl, HA, HK2, BK101, HB⟩ := hrel
          cases gk with
          | zero => exact absurd HA.out (by simp [impl_ValidCircuit.l0])
          | succ k2 =>
            have H := HA.out
            clear HA
            simp only [impl_ValidCircuit.l0] at H
            by_cases c12 : x25_2 < (l0_1.length : Int)
            · rw [if_pos c12] at H
              have c12b0 : decide (x25_2 < (l0_1.length : Int)) = true := decide_eq_true c12
              clear c12
              by_cases c13 : 0 ≤ x25_2
              · rw [if_pos c13] at H
                have c13b0 : decide (0 ≤ x25_2) = true := decide_eq_true c13
                clear c13
                by_cases c14 : x25_2 < (l0_1.length : Int)
                · rw [if_pos c14] at H
                  have c14b0 : decide (x25_2 < (l0_1.length : Int)) = true := decide_eq_true c14
                  clear c14
                  replace H := Option.bind_eq_some_iff.mp H
                  obtain ⟨t105, A150, H⟩ := H
                  replace H : (if t105 = true then (impl_ValidCircuit.l0 k2 l0_1 (l0_1.length : Int) (wrap64 (x25_2 + 1)) a0_0 l0_1 l0_2) else (some false)) = some r := H
                  have A15 := Aside0.mk A150
                  clear A150
                  by_cases c16 : t105 = true
                  · subst c16
                    have H1 : (impl_ValidCircuit.l0 k2 l0_1 (l0_1.length : Int) (wrap64 (x25_2 + 1)) a0_0 l0_1 l0_2) = some r := by rw [if_pos rfl] at H; exact H
                    clear H
                    have H := H1
                    clear H1
                    have H' := Aside0.mk H
                    clear H
                    have p103 : 0 ≤ (x25_2 : Int) := of_decide_eq_true (by first | (with_reducible assumption) | assumption)
                    have q103 : x25_2 < (l0_1.length : Int) := of_decide_eq_true (by first | (with_reducible assumption) | assumption)
                    obtain ⟨ad103, e103, hx103_0, hx103_1, hx103_2⟩ := at_T68 HR0_1.out x25_2 p103 q103
                    cases e103
                    replace hx103_0 := (HB.out.cell (World.block_lt_of_cell? w _ hx103_0)).trans hx103_0
                    replace hx103_1 := (HB.out.cell (World.block_lt_of_cell? w _ hx103_1)).trans hx103_1
                    replace hx103_2 := (HB.out.cell (World.block_lt_of_cell? w _ hx103_2)).trans hx103_2
                    replace p103 := eq_true p103
                    replace q103 := eq_true q103
                    go_wp2_with (first | ((with_reducible refine gate_dst (N := 4) rfl ?_); (try (refine gate_guard (by rfl) ?_; dsimp only)); refine box_event ?hg (N := 4) ?hd (cs := #[.int .i8 0, .int .i16 0, .int .i16 0]) (t := 68) ?hr ?_; (case hd => rfl); (case hg => rfl); (case hr => first | (go_simp; done) | (go_simp; rfl)); intro gb104 hg w17 hbox hb; have n0_ := Aside0.mk (blk_below (g := gb101) (o := .cells #[.int .i8 a0_0, .slice (some ad103) l0_1.length c0_1, .slice A0_2 l0_2.length c0_2] 30 (0, 0)) (by (with_reducible repeat (first | refine blk_drewN ?_ _ | refine blk_drew ?_ | refine blk_alloc ?_ _)); exact BK101.out) hb); have n1_ := Aside0.mk (below_step (by repeat (first | (with_reducible first | exact HB.out | apply below_alloc | apply pw_below_drewN | apply below_drew1 | refine below_set ?_ GE101.out) | exact HB.out)) hb); have n2_ := Aside0.mk (hbox); have n3_ := Aside0.mk ((by rw [hg]; exact (below_size (by repeat (first | (with_reducible first | exact HB.out | apply below_alloc | apply pw_below_drewN | apply below_drew1 | refine below_set ?_ GE101.out) | exact HB.out))) : w.heap.size ≤ gb104)); have n4_ := Aside0.mk ((by rw [hg]; exact (below_size (by repeat (first | (with_reducible first | exact HB.out | apply below_alloc | apply pw_below_drewN | apply below_drew1 | refine below_set ?_ GE101.out) | exact HB.out))) : w.heap.size ≤ gb104)); have n5_ := Aside0.mk ((by rw [hg]; exact Nat.ne_of_lt (blk_lt (g := gb101) (o := .cells #[.int .i8 a0_0, .slice (some ad103) l0_1.length c0_1, .slice A0_2 l0_2.length c0_2] 30 (0, 0)) (by (with_reducible repeat (first | refine blk_drewN ?_ _ | refine blk_drew ?_ | refine blk_alloc ?_ _)); exact BK101.out)) : gb101 ≠ gb104)); have n6_ := Aside0.mk ((by rw [hg]; exact Nat.ne_of_gt (blk_lt (g := gb101) (o := .cells #[.int .i8 a0_0, .slice (some ad103) l0_1.length c0_1, .slice A0_2 l0_2.length c0_2] 30 (0, 0)) (by (with_reducible repeat (first | refine blk_drewN ?_ _ | refine blk_drew ?_ | refine blk_alloc ?_ _)); exact BK101.out)) : gb104 ≠ gb101)); clear BK101; clear HB; have BK101 := n0_; have HB := n1_; have BK104 := n2_; have GW104 := n3_; have GE104 := n4_; have NB101_104 := n5_; have NB104_101 := n6_; clear n0_ n1_ n2_ n3_ n4_ n5_ n6_; clear hb hbox hg; have hnb18 := NB104_101.out; have hnc18 := NB101_104.out; have hcz19_0 : w17.cell? ⟨gb104, 0, none⟩ = some (.int .i8 0) := (blk_cell BK104.out 0).trans rfl; have hcz19_1 : w17.cell? ⟨gb104, 1, none⟩ = some (.int .i16 0) := (blk_cell BK104.out 1).trans rfl; have hcz19_2 : w17.cell? ⟨gb104, 2, none⟩ = some (.int .i16 0) := (blk_cell BK104.out 2).trans rfl; have hfz19_0 := blk_frozen BK104.out 0; have hfz19_1 := blk_frozen BK104.out 1; have hfz19_2 := blk_frozen BK104.out 2; have hcz20_0 : w17.cell? ⟨gb101, 0, none⟩ = some (.int .i8 a0_0) := (blk_cell BK101.out 0).trans rfl; have hcz20_1 : w17.cell? ⟨gb101, 1, none⟩ = some (.slice (some ad103) l0_1.length c0_1) := (blk_cell BK101.out 1).trans rfl; have hcz20_2 : w17.cell? ⟨gb101, 2, none⟩ = some (.slice A0_2 l0_2.length c0_2) := (blk_cell BK101.out 2).trans rfl; have hfz20_0 := blk_frozen BK101.out 0; have hfz20_1 := blk_frozen BK101.out 1; have hfz20_2 := blk_frozen BK101.out 2) | ((with_reducible refine gate_callee (f := 83) rfl ?_); refine goesL_ (some 33) rfl rfl Try.func83 (by kernel_rfl) rfl #[.agg #[.int .i8 a0_0, .slice (some ad103) l0_1.length c0_1, .slice A0_2 l0_2.length c0_2], .agg #[.int .i8 ((rd_T68 l0_1 x25_2).f0), .int .i16 ((rd_T68 l0_1 x25_2).f1), .int .i16 ((rd_T68 l0_1 x25_2).f2)], .int .i64 x25_2] rfl (by (try simp only [List.map_toArray, List.map_cons, List.map_nil]); first | done | rfl | (simp only [List.length_drop, List.length_take]; rfl)) ?_; (with_reducible refine (impl_Circuit_isGate.calls a0_0 _ _ l0_1 _ _ l0_2 ((rd_T68 l0_1 x25_2).f0) ((rd_T68 l0_1 x25_2).f1) ((rd_T68 l0_1 x25_2).f2) x25_2 true _ ?side1 ?side2 ?side3 ?side4 A15.out).mono ?_); (case side1 => exact Kd.C_below HR0_1.out (by repeat (first | (with_reducible first | exact HB.out | apply below_alloc | apply pw_below_drewN | apply below_drew1 | refine below_set ?_ GE101.out | refine below_set ?_ GE104.out) | exact HB.out))); (case side2 => exact HC0_1.out); (case side3 => exact Kd.C_below HR0_2.out (by repeat (first | (with_reducible first | exact HB.out | apply below_alloc | apply pw_below_drewN | apply below_drew1 | refine below_set ?_ GE101.out | refine below_set ?_ GE104.out) | exact HB.out))); (case side4 => exact HC0_2.out); rintro e w21 ⟨rfl, hb⟩; refine ⟨_, rfl, ?_⟩; have n0_ := Aside0.mk (blk_below (g := gb101) (o := .cells #[.int .i8 a0_0, .slice (some ad103) l0_1.length c0_1, .slice A0_2 l0_2.length c0_2] 30 (0, 0)) (by (with_reducible repeat (first | refine blk_drewN ?_ _ | refine blk_drew ?_ | refine blk_alloc ?_ _)); refine blk_far ?_ NB101_104.out _; (with_reducible repeat (first | refine blk_drewN ?_ _ | refine blk_drew ?_ | refine blk_alloc ?_ _)); refine blk_far ?_ NB101_104.out _; (with_reducible repeat (first | refine blk_drewN ?_ _ | refine blk_drew ?_ | refine blk_alloc ?_ _)); refine blk_far ?_ NB101_104.out _; (with_reducible repeat (first | refine blk_drewN ?_ _ | refine blk_drew ?_ | refine blk_alloc ?_ _)); exact BK101.out) hb); have n1_ := Aside0.mk (blk_below (g := gb104) (o := .cells #[.int .i8 ((rd_T68 l0_1 x25_2).f0), .int .i16 ((rd_T68 l0_1 x25_2).f1), .int .i16 ((rd_T68 l0_1 x25_2).f2)] 68 (0, 0)) (by (with_reducible repeat (first | refine blk_drewN ?_ _ | refine blk_drew ?_ | refine blk_alloc ?_ _)); refine blk_put (cs := #[.int .i8 ((rd_T68 l0_1 x25_2).f0), .int .i16 ((rd_T68 l0_1 x25_2).f1), .int .i16 0]) ?_ 2 _ rfl; (with_reducible repeat (first | refine blk_drewN ?_ _ | refine blk_drew ?_ | refine blk_alloc ?_ _)); refine blk_put (cs := #[.int .i8 ((rd_T68 l0_1 x25_2).f0), .int .i16 0, .int .i16 0]) ?_ 1 _ rfl; (with_reducible repeat (first | refine blk_drewN ?_ _ | refine blk_drew ?_ | refine blk_alloc ?_ _)); refine blk_put (cs := #[.int .i8 0, .int .i16 0, .int .i16 0]) ?_ 0 _ rfl; (with_reducible repeat (first | refine blk_drewN ?_ _ | refine blk_drew ?_ | refine blk_alloc ?_ _)); exact BK104.out) hb); have n2_ := Aside0.mk (below_step (by repeat (first | (with_reducible first | exact HB.out | apply below_alloc | apply pw_below_drewN | apply below_drew1 | refine below_set ?_ GE101.out | refine below_set ?_ GE104.out) | exact HB.out)) hb); clear BK101; clear BK104; clear HB; have BK101 := n0_; have BK104 := n1_; have HB := n2_; clear n0_ n1_ n2_; (try clear hb); (try clear hb2); (try clear hk); (try clear hi)))
                    go_roundg k2
                    case measure => have := HJ1.out; have := HK2.out; omega
                    case rel => exact ⟨(wrap64 (x25_2 + 1)), (by first | rfl | (simp; done) | (simp [*]; done)), H', ⟨by have := HJ1.out; have := HK2.out; omega⟩, ⟨by (with_reducible repeat (first | refine blk_drewN ?_ _ | refine blk_drew ?_ | refine blk_alloc ?_ _)); exact BK101.out⟩, ⟨by repeat (first | (with_reducible first | exact HB.out | apply below_alloc | apply pw_below_drewN | apply below_drew1 | refine below_set ?_ GE101.out | refine below_set ?_ GE104.out) | exact HB.out)⟩⟩
                  · replace c16 := Bool.eq_false_iff.mpr c16
                    subst c16
                    have H1 : (some false) = some r := by rw [if_neg (show ¬ (false = true) by decide)] at H; exact H
                    clear H
                    have H := H1
                    clear H1
                    obtain rfl := Option.some.inj H
                    have p103 : 0 ≤ (x25_2 : Int) := of_decide_eq_true (by first | (with_reducible assumption) | assumption)
                    have q103 : x25_2 < (l0_1.length : Int) := of_decide_eq_true (by first | (with_reducible assumption) | assumption)
                    obtain ⟨ad103, e103, hx103_0, hx103_1, hx103_2⟩ := at_T68 HR0_1.out x25_2 p103 q103
                    cases e103
                    replace hx103_0 := (HB.out.cell (World.block_lt_of_cell? w _ hx103_0)).trans hx103_0
                    replace hx103_1 := (HB.out.cell (World.block_lt_of_cell? w _ hx103_1)).trans hx103_1
                    replace hx103_2 := (HB.out.cell (World.block_lt_of_cell? w _ hx103_2)).trans hx103_2
                    replace p103 := eq_true p103
                    replace q103 := eq_true q103
                    go_wp2_with (first | ((with_reducible refine gate_dst (N := 4) rfl ?_); (try (refine gate_guard (by rfl) ?_; dsimp only)); refine box_event ?hg (N := 4) ?hd (cs := #[.int .i8 0, .int .i16 0, .int .i16 0]) (t := 68) ?hr ?_; (case hd => rfl); (case hg => rfl); (case hr => first | (go_simp; done) | (go_simp; rfl)); intro gb104 hg w22 hbox hb; have n0_ := Aside0.mk (blk_below (g := gb101) (o := .cells #[.int .i8 a0_0, .slice (some ad103) l0_1.length c0_1, .slice A0_2 l0_2.length c0_2] 30 (0, 0)) (by (with_reducible repeat (first | refine blk_drewN ?_ _ | refine blk_drew ?_ | refine blk_alloc ?_ _)); exact BK101.out) hb); have n1_ := Aside0.mk (below_step (by repeat (first | (with_reducible first | exact HB.out | apply below_alloc | apply pw_below_drewN | apply below_drew1 | refine below_set ?_ GE101.out) | exact HB.out)) hb); have n2_ := Aside0.mk (hbox); have n3_ := Aside0.mk ((by rw [hg]; exact (below_size (by repeat (first | (with_reducible first | exact HB.out | apply below_alloc | apply pw_below_drewN | apply below_drew1 | refine below_set ?_ GE101.out) | exact HB.out))) : w.heap.size ≤ gb104)); have n4_ := Aside0.mk ((by rw [hg]; exact (below_size (by repeat (first | (with_reducible first | exact HB.out | apply below_alloc | apply pw_below_drewN | apply below_drew1 | refine below_set ?_ GE101.out) | exact HB.out))) : w.heap.size ≤ gb104)); have n5_ := Aside0.mk ((by rw [hg]; exact Nat.ne_of_lt (blk_lt (g := gb101) (o := .cells #[.int .i8 a0_0, .slice (some ad103) l0_1.length c0_1, .slice A0_2 l0_2.length c0_2] 30 (0, 0)) (by (with_reducible repeat (first | refine blk_drewN ?_ _ | refine blk_drew ?_ | refine blk_alloc ?_ _)); exact BK101.out)) : gb101 ≠ gb104)); have n6_ := Aside0.mk ((by rw [hg]; exact Nat.ne_of_gt (blk_lt (g := gb101) (o := .cells #[.int .i8 a0_0, .slice (some ad103) l0_1.length c0_1, .slice A0_2 l0_2.length c0_2] 30 (0, 0)) (by (with_reducible repeat (first | refine blk_drewN ?_ _ | refine blk_drew ?_ | refine blk_alloc ?_ _)); exact BK101.out)) : gb104 ≠ gb101)); clear BK101; clear HB; have BK101 := n0_; have HB := n1_; have BK104 := n2_; have GW104 := n3_; have GE104 := n4_; have NB101_104 := n5_; have NB104_101 := n6_; clear n0_ n1_ n2_ n3_ n4_ n5_ n6_; clear hb hbox hg; have hnb23 := NB104_101.out; have hnc23 := NB101_104.out; have hcz24_0 : w22.cell? ⟨gb104, 0, none⟩ = some (.int .i8 0) := (blk_cell BK104.out 0).trans rfl; have hcz24_1 : w22.cell? ⟨gb104, 1, none⟩ = some (.int .i16 0) := (blk_cell BK104.out 1).trans rfl; have hcz24_2 : w22.cell? ⟨gb104, 2, none⟩ = some (.int .i16 0) := (blk_cell BK104.out 2).trans rfl; have hfz24_0 := blk_frozen BK104.out 0; have hfz24_1 := blk_frozen BK104.out 1; have hfz24_2 := blk_frozen BK104.out 2; have hcz25_0 : w22.cell? ⟨gb101, 0, none⟩ = some (.int .i8 a0_0) := (blk_cell BK101.out 0).trans rfl; have hcz25_1 : w22.cell? ⟨gb101, 1, none⟩ = some (.slice (some ad103) l0_1.length c0_1) := (blk_cell BK101.out 1).trans rfl; have hcz25_2 : w22.cell? ⟨gb101, 2, none⟩ = some (.slice A0_2 l0_2.length c0_2) := (blk_cell BK101.out 2).trans rfl; have hfz25_0 := blk_frozen BK101.out 0; have hfz25_1 := blk_frozen BK101.out 1; have hfz25_2 := blk_frozen BK101.out 2) | ((with_reducible refine gate_callee (f := 83) rfl ?_); refine goesL_ (some 33) rfl rfl Try.func83 (by kernel_rfl) rfl #[.agg #[.int .i8 a0_0, .slice (some ad103) l0_1.length c0_1, .slice A0_2 l0_2.length c0_2], .agg #[.int .i8 ((rd_T68 l0_1 x25_2).f0), .int .i16 ((rd_T68 l0_1 x25_2).f1), .int .i16 ((rd_T68 l0_1 x25_2).f2)], .int .i64 x25_2] rfl (by (try simp only [List.map_toArray, List.map_cons, List.map_nil]); first | done | rfl | (simp only [List.length_drop, List.length_take]; rfl)) ?_; (with_reducible refine (impl_Circuit_isGate.calls a0_0 _ _ l0_1 _ _ l0_2 ((rd_T68 l0_1 x25_2).f0) ((rd_T68 l0_1 x25_2).f1) ((rd_T68 l0_1 x25_2).f2) x25_2 false _ ?side1 ?side2 ?side3 ?side4 A15.out).mono ?_); (case side1 => exact Kd.C_below HR0_1.out (by repeat (first | (with_reducible first | exact HB.out | apply below_alloc | apply pw_below_drewN | apply below_drew1 | refine below_set ?_ GE101.out | refine below_set ?_ GE104.out) | exact HB.out))); (case side2 => exact HC0_1.out); (case side3 => exact Kd.C_below HR0_2.out (by repeat (first | (with_reducible first | exact HB.out | apply below_alloc | apply pw_below_drewN | apply below_drew1 | refine below_set ?_ GE101.out | refine below_set ?_ GE104.out) | exact HB.out))); (case side4 => exact HC0_2.out); rintro e w26 ⟨rfl, hb⟩; refine ⟨_, rfl, ?_⟩; have n0_ := Aside0.mk (blk_below (g := gb101) (o := .cells #[.int .i8 a0_0, .slice (some ad103) l0_1.length c0_1, .slice A0_2 l0_2.length c0_2] 30 (0, 0)) (by (with_reducible repeat (first | refine blk_drewN ?_ _ | refine blk_drew ?_ | refine blk_alloc ?_ _)); refine blk_far ?_ NB101_104.out _; (with_reducible repeat (first | refine blk_drewN ?_ _ | refine blk_drew ?_ | refine blk_alloc ?_ _)); refine blk_far ?_ NB101_104.out _; (with_reducible repeat (first | refine blk_drewN ?_ _ | refine blk_drew ?_ | refine blk_alloc ?_ _)); refine blk_far ?_ NB101_104.out _; (with_reducible repeat (first | refine blk_drewN ?_ _ | refine blk_drew ?_ | refine blk_alloc ?_ _)); exact BK101.out) hb); have n1_ := Aside0.mk (blk_below (g := gb104) (o := .cells #[.int .i8 ((rd_T68 l0_1 x25_2).f0), .int .i16 ((rd_T68 l0_1 x25_2).f1), .int .i16 ((rd_T68 l0_1 x25_2).f2)] 68 (0, 0)) (by (with_reducible repeat (first | refine blk_drewN ?_ _ | refine blk_drew ?_ | refine blk_alloc ?_ _)); refine blk_put (cs := #[.int .i8 ((rd_T68 l0_1 x25_2).f0), .int .i16 ((rd_T68 l0_1 x25_2).f1), .int .i16 0]) ?_ 2 _ rfl; (with_reducible repeat (first | refine blk_drewN ?_ _ | refine blk_drew ?_ | refine blk_alloc ?_ _)); refine blk_put (cs := #[.int .i8 ((rd_T68 l0_1 x25_2).f0), .int .i16 0, .int .i16 0]) ?_ 1 _ rfl; (with_reducible repeat (first | refine blk_drewN ?_ _ | refine blk_drew ?_ | refine blk_alloc ?_ _)); refine blk_put (cs := #[.int .i8 0, .int .i16 0, .int .i16 0]) ?_ 0 _ rfl; (with_reducible repeat (first | refine blk_drewN ?_ _ | refine blk_drew ?_ | refine blk_alloc ?_ _)); exact BK104.out) hb); have n2_ := Aside0.mk (below_step (by repeat (first | (with_reducible first | exact HB.out | apply below_alloc | apply pw_below_drewN | apply below_drew1 | refine below_set ?_ GE101.out | refine below_set ?_ GE104.out) | exact HB.out)) hb); clear BK101; clear BK104; clear HB; have BK101 := n0_; have BK104 := n1_; have HB := n2_; clear n0_ n1_ n2_; (try clear hb); (try clear hb2); (try clear hk); (try clear hi)))
                    go_ret
                    exact ⟨by first | rfl | (simp [errW_none, errW_some] <;> rfl) | (simp [*, errW_none, errW_some] <;> rfl), by repeat (first | (with_reducible first | exact HB.out | apply below_alloc | apply pw_below_drewN | apply below_drew1 | refine below_set ?_ GE101.out | refine below_set ?_ GE104.out) | exact HB.out)⟩
                · rw [if_neg c14] at H
                  exact absurd H (by simp)
              · rw [if_neg c13] at H
                exact absurd H (by simp)
            · rw [if_neg c12] at H
              have c12b0 : decide (x25_2 < (l0_1.length : Int)) = false := decide_eq_false c12
              clear c12
              replace H := Option.bind_eq_some_iff.mp H
              obtain ⟨t106, A270, H⟩ := H
              replace H : (some (!t106)) = some r := H
              have A27 := Aside0.mk A270
              clear A270
              obtain rfl := Option.some.inj H
              have hcz28_0 : wr.cell? ⟨gb101, 0, none⟩ = some (.int .i8 a0_0) := (blk_cell BK101.out 0).trans rfl
              have hcz28_1 : wr.cell? ⟨gb101, 1, none⟩ = some (.slice A0_1 l0_1.length c0_1) := (blk_cell BK101.out 1).trans rfl
              have hcz28_2 : wr.cell? ⟨gb101, 2, none⟩ = some (.slice A0_2 l0_2.length c0_2) := (blk_cell BK101.out 2).trans rfl
              have hfz28_0 := blk_frozen BK101.out 0
              have hfz28_1 := blk_frozen BK101.out 1
              have hfz28_2 := blk_frozen BK101.out 2
              go_wp2_with (first | ((with_reducible refine gate_callee (f := 84) rfl ?_); refine goesL_ (some 39) rfl rfl Try.func84 (by kernel_rfl) rfl #[.slice A0_2 l0_2.length c0_2, .func (.func 85) #[] #[.pointer (some ⟨gb101, 0, none⟩)]] rfl (by (try simp only [List.map_toArray, List.map_cons, List.map_nil]); first | done | rfl | (simp only [List.length_drop, List.length_take]; rfl)) ?_; (with_reducible refine (slices_ContainsFunc_int16_int16.calls _ _ l0_2 85 #[.pointer (some ⟨gb101, 0, none⟩)] (enters_ Try.func85 (by kernel_rfl) rfl) (fun x_ : Int => impl_ValidCircuit_1.f x_ a0_0 l0_1 l0_2) t106 _ ?side1 ?side2 ?side3 A27.out).mono ?_); (case side1 => repeat (first | exact (Kd.C_below HR0_2.out HB.out) | (with_reducible refine Kd.C_alloc ?_ _) | (with_reducible refine Kd.C_drewN ?_ _) | (with_reducible refine Kd.C_drew ?_))); (case side2 => exact HC0_2.out); (case side3 => intro W_ x_ b_ hB_ hp_; refine (impl_ValidCircuit_1.calls x_ gb101 a0_0 A0_1 c0_1 l0_1 A0_2 c0_2 l0_2 b_ W_ (blk_below (g := gb101) (o := .cells #[.int .i8 a0_0, .slice A0_1 l0_1.length c0_1, .slice A0_2 l0_2.length c0_2] 30 (0, 0)) (by (with_reducible repeat (first | refine blk_drewN ?_ _ | refine blk_drew ?_ | refine blk_alloc ?_ _)); exact BK101.out) hB_) (Kd.C_below (by repeat (first | exact (Kd.C_below HR0_1.out HB.out) | (with_reducible refine Kd.C_alloc ?_ _) | (with_reducible refine Kd.C_drewN ?_ _) | (with_reducible refine Kd.C_drew ?_))) hB_) (by exact HC0_1.out) (Kd.C_below (by repeat (first | exact (Kd.C_below HR0_2.out HB.out) | (with_reducible refine Kd.C_alloc ?_ _) | (with_reducible refine Kd.C_drewN ?_ _) | (with_reducible refine Kd.C_drew ?_))) hB_) (by exact HC0_2.out) hp_).mono ?_; rintro e_ w_ ⟨rfl, hd_⟩; exact ⟨rfl, hd_.below⟩); rintro e w29 ⟨rfl, hb⟩; refine ⟨_, rfl, ?_⟩; have n0_ := Aside0.mk (blk_below (g := gb101) (o := .cells #[.int .i8 a0_0, .slice A0_1 l0_1.length c0_1, .slice A0_2 l0_2.length c0_2] 30 (0, 0)) (by (with_reducible repeat (first | refine blk_drewN ?_ _ | refine blk_drew ?_ | refine blk_alloc ?_ _)); exact BK101.out) hb); have n1_ := Aside0.mk (below_step (by repeat (first | (with_reducible first | exact HB.out | apply below_alloc | apply pw_below_drewN | apply below_drew1 | refine below_set ?_ GE101.out) | exact HB.out)) hb); clear BK101; clear HB; have BK101 := n0_; have HB := n1_; clear n0_ n1_; (try clear hb); (try clear hb2); (try clear hk); (try clear hi)))
              go_ret
              exact ⟨by first | rfl | (simp [errW_none, errW_some] <;> rfl) | (simp [*, errW_none, errW_some] <;> rfl), by repeat (first | (with_reducible first | exact HB.out | apply below_alloc | apply pw_below_drewN | apply below_drew1 | refine below_set ?_ GE101.out) | exact HB.out)⟩
end Go.Proofs.Yteanndgkjoinmaa.X

namespace Go.Proofs.Yteanndgkjoinmaa.X
open Go.RowKit Go.Proofs.YteanndgkjoinmaaW.PrintWords Go.Proofs.YteanndgkjoinmaaW.PrintLast Go.Proofs.YteanndgkjoinmaaW.PrintMore
set_option linter.unusedVariables false
set_option linter.unusedSimpArgs false
def gOk : List S68 → Nat → Bool
  | [], _ => true
  | g :: r, i => (if g.f0 = 2 ∨ g.f0 = 3 then decide (0 ≤ g.f1 ∧ g.f1 < (i : Int) ∧ 0 ≤ g.f2 ∧ g.f2 < (i : Int)) else true) && gOk r (i + 1)
theorem gOk_get : ∀ (l : List S68) (j : Nat), gOk l j = true → ∀ (i : Nat) x, l[i]? = some x → (x.f0 = 2 ∨ x.f0 = 3) → 0 ≤ x.f1 ∧ x.f1 < ((j + i : Nat) : Int) ∧ 0 ≤ x.f2 ∧ x.f2 < ((j + i : Nat) : Int)
  | [], j, _, i, x, h, _ => by simp at h
  | g :: r, j, hk, i, x, h, hp => by
    rw [gOk, Bool.and_eq_true] at hk
    cases i with
    | zero =>
      have e : g = x := by simpa using h
      subst e
      have h1 := hk.1
      rw [if_pos hp, decide_eq_true_eq] at h1
      exact h1
    | succ i =>
      have := gOk_get r (j + 1) hk.2 i x (by simpa using h) hp
      rw [show j + (i + 1) = j + 1 + i by omega]
      exact this
def oOk (n : Nat) (l : List Int) : Bool := l.all fun o => decide (0 ≤ o ∧ o < (n : Int))
theorem oOk_get {n : Nat} {l : List Int} (h : oOk n l = true) (j : Nat) (x : Int) (hx : l[j]? = some x) : 0 ≤ x ∧ x < (n : Int) := by
  rw [oOk, List.all_eq_true] at h
  exact of_decide_eq_true (h x (List.mem_of_getElem? hx))
end Go.Proofs.Yteanndgkjoinmaa.X

namespace Go.Proofs.Yteanndgkjoinmaa.X.Mg
open Go.RowKit Go.Proofs.YteanndgkjoinmaaW.PrintWords Go.Proofs.YteanndgkjoinmaaW.PrintLast Go.Proofs.YteanndgkjoinmaaW.PrintMore
set_option linter.unusedVariables false
set_option linter.unusedSimpArgs false
def KeepSpec (g : Nat) (lb : Array Value) (N0 n : Nat) (a0 : Int) (w0 : World) (Cst : World → List S68 → Prop) (step : Nat → S68 → List S68 → Int × List S68) (Sc : Nat → Prop) (Y : Nat → S68 → List S68 → Prop) : Prop :=
  ∀ (i : Nat) (y0 y1 y2 : Int) (gp : Nat) (u1 u2 : Value) (lg : List S68) (W : World), i < n → lg.length ≤ i → Y i ⟨y0, y1, y2⟩ lg → N0 ≤ gp → Below w0.heap.size w0 W → W.heap[gp]? = some (.cells #[.int .i8 a0, u1, u2] 30 (0, 0)) → Kd.R k68 68 W w0.heap.size (fun k => N0 ≤ k) u1 lg → N0 ≤ W.heap.size → Cst W lg →
    Calls Try.prog g (#[.pointer (some ⟨gp, 0, none⟩), .int .i64 i, .agg #[.int .i8 y0, .int .i16 y1, .int .i16 y2]] ++ lb) W fun e w' => e = .returned (.int .i16 (step i ⟨y0, y1, y2⟩ lg).1) ∧ ∃ u1', Kd.R k68 68 w' w0.heap.size (fun k => N0 ≤ k) u1' (step i ⟨y0, y1, y2⟩ lg).2 ∧ w'.heap[gp]? = some (.cells #[.int .i8 a0, u1', u2] 30 (0, 0)) ∧ Below w0.heap.size w0 w' ∧ W.heap.size ≤ w'.heap.size ∧ Cst w' (step i ⟨y0, y1, y2⟩ lg).2 ∧ (∀ j, j < W.heap.size → (N0 ≤ j ∨ ¬ Sc j) → j ≠ gp → some j ≠ u1.ownBlock → w'.heap[j]? = W.heap[j]?)
set_option maxHeartbeats 8000000 in
set_option maxRecDepth 100000 in
theorem ren_calls (step : Nat → S68 → List S68 → Int × List S68) (hlen : ∀ i y lg, lg.length ≤ i → (step i y lg).2.length ≤ i + 1) (g : Nat) (lb : Array Value) (eg : ∀ (xs : Array Value) (W : World), (callFunc g xs).run Try.prog W = .ok (.enter g xs) W) (a0 : Int) (A1 : Option Addr) (c1 : Nat) (l1 : List S68) (A2 : Option Addr) (c2 : Nat) (l2 : List Int) (w0 w : World) (hB : Below w0.heap.size w0 w)
    (hr1 : Kd.C k68 w0 A1 l1.length l1) (hr2 : Kd.C (Kd.int .i16) w0 A2 l2.length l2) (Cst : World → List S68 → Prop) (hst : ∀ W W' og, Cst W og → Below w.heap.size W W' → Cst W' og) (h0 : Cst w []) (Sc : Nat → Prop) (Y : Nat → S68 → List S68 → Prop) (Inv : Nat → List Int → List S68 → Prop) (hI0 : Inv 0 [] []) (hIs : ∀ i pl og (x : S68), l1[i]? = some x → pl.length = i → Inv i pl og → Y i (if x.f0 = 2 ∨ x.f0 = 3 then ⟨x.f0, rd pl x.f1, rd pl x.f2⟩ else x) og ∧ Inv (i + 1) (pl ++ [(step i (if x.f0 = 2 ∨ x.f0 = 3 then ⟨x.f0, rd pl x.f1, rd pl x.f2⟩ else x) og).1]) (step i (if x.f0 = 2 ∨ x.f0 = 3 then ⟨x.f0, rd pl x.f1, rd pl x.f2⟩ else x) og).2) (hk : KeepSpec g lb w.heap.size l1.length a0 w0 Cst step Sc Y) (hn : l1.length ≤ 600) (hm : l2.length ≤ 16)
    (hv : ∀ (i : Nat) x, l1[i]? = some x → (x.f0 = 2 ∨ x.f0 = 3) → 0 ≤ x.f1 ∧ x.f1 < i ∧ 0 ≤ x.f2 ∧ x.f2 < i) (ho : ∀ (j : Nat) x, l2[j]? = some x → 0 ≤ x ∧ x < l1.length) :
    Calls Try.prog 58 #[.agg #[.int .i8 a0, .slice A1 l1.length c1, .slice A2 l2.length c2], .func (.func g) #[] lb] w fun e w' => ∃ v1 v2, e = .returned (.agg #[.int .i8 a0, v1, v2]) ∧ Kd.R k68 68 w' w0.heap.size (fun _ => True) v1 (renL step l1 0 [] []).2 ∧ Kd.R (Kd.int .i16) 66 w' w0.heap.size (fun _ => True) v2 (l2.map fun o => rd (renL step l1 0 [] []).1 o) ∧ Below w0.heap.size w0 w' ∧ Cst w' (renL step l1 0 [] []).2 := by
  have hu30 := Try.underlying30
  have hu68 := Try.underlying68
  obtain ⟨RR, hRR⟩ : ∃ RR, RR = renL step l1 0 [] [] := ⟨_, rfl⟩
  rw [← hRR]
  have HRR := Aside0.mk hRR
  have HLEN := Aside0.mk hlen
  have HB := Aside0.mk hB
  have HS := Aside0.mk hB.size
  have HR1 := Aside0.mk hr1
  have HR2 := Aside0.mk hr2
  have HST := Aside0.mk hst
  have HC := Aside0.mk h0
  have HK := Aside0.mk hk
  have HI0 := Aside0.mk hI0
  have HIS := Aside0.mk hIs
  have HN := Aside0.mk hn
  have HM := Aside0.mk hm
  have HV := Aside0.mk hv
  have HO := Aside0.mk ho
  have HW := Aside0.mk (Below.refl w.heap.size w)
  clear hRR hlen hB hr1 hr2 hst h0 hk hI0 hIs hn hm hv ho
  go_enter Try.func58, Try.ntmps58
  go_wp2_with (first
    | ((with_reducible refine gate_dst (N := 2) rfl ?_); refine box_event ?hg (N := 2) ?hd (cs := #[.int .i8 a0, .slice A1 l1.length c1, .slice A2 l2.length c2]) (t := 30) ?hr ?_; (case hd => rfl); (case hg => rfl); (case hr => first | (go_simp; done) | (go_simp; rfl)); intro gb2 hg w2 hbox hb; have HW2 := Aside0.mk hb; have BK2 := Aside0.mk hbox; have GE2 := Aside0.mk (show w.heap.size ≤ gb2 by rw [hg]; exact Nat.le_refl _); clear hb hbox hg; have hcz2_0 : w2.cell? ⟨gb2, 0, none⟩ = some (.int .i8 a0) := (blk_cell BK2.out 0).trans rfl; have hcz2_1 : w2.cell? ⟨gb2, 1, none⟩ = some (.slice A1 l1.length c1) := (blk_cell BK2.out 1).trans rfl)
    | ((with_reducible refine gate_dst (N := 4) rfl ?_); refine box_event ?hg (N := 4) ?hd (cs := #[.int .i8 0, .slice none 0 0, .slice none 0 0]) (t := 30) ?hr ?_; (case hd => rfl); (case hg => rfl); (case hr => first | (go_simp; done) | (go_simp; rfl)); intro gb4 hg w4 hbox hb; have HW4 := Aside0.mk (below_step HW2.out hb); have NB42 := Aside0.mk (show gb4 ≠ gb2 by rw [hg]; exact Nat.ne_of_gt (blk_lt BK2.out)); have BK2 := Aside0.mk (blk_below BK2.out hb); have BK4 := Aside0.mk hbox; have GE4 := Aside0.mk (show w.heap.size ≤ gb4 by rw [hg]; exact HW2.out.size); clear hb hbox hg; have hcz4_0 : w4.cell? ⟨gb2, 0, none⟩ = some (.int .i8 a0) := (blk_cell BK2.out 0).trans rfl; have hcz4_1 : w4.cell? ⟨gb2, 1, none⟩ = some (.slice A1 l1.length c1) := (blk_cell BK2.out 1).trans rfl)
    | ((with_reducible refine gate_dst (N := 14) rfl ?_); refine Kd.R_lit (Kd.int .i16) _ 66 ?hg (N := 14) ?hd (xs := ([] : List Int)) (inner := []) (ok := fun _ => True) (okp := fun _ => True) ?hr ?hp (fun _ hk => hk) trivial (Below.refl _ _) (Nat.le_refl _) (by simp) ?_; (case hd => rfl); (case hg => rfl); (case hr => first | (go_simp; done) | (go_simp; rfl)); (case hp => exact Reps.none _ _); intro v14 w14 ho14 hb hg_ hnew_; clear hg_ hnew_; have HP14 := Aside0.mk (Kd.R_lower ho14 HW4.out.size); have HW14 := Aside0.mk (below_step HW4.out hb); have BK2 := Aside0.mk (blk_below BK2.out hb); have BK4 := Aside0.mk (blk_below BK4.out hb); clear ho14 hb)
    | ((with_reducible refine gate_dst (N := 5) rfl ?_); refine box_event ?hg (N := 5) ?hd (cs := #[.int .i8 0, .slice none 0 0, .slice none 0 0]) (t := 30) ?hr ?_; (case hd => rfl); (case hg => rfl); (case hr => first | (go_simp; done) | (go_simp; rfl)); intro gb5 hg w5 hbox hb; have HW5 := Aside0.mk (below_step HW14.out hb); have NB52 := Aside0.mk (show gb5 ≠ gb2 by rw [hg]; exact Nat.ne_of_gt (blk_lt BK2.out)); have NB54 := Aside0.mk (show gb5 ≠ gb4 by rw [hg]; exact Nat.ne_of_gt (blk_lt BK4.out)); have BK2 := Aside0.mk (blk_below BK2.out hb); have BK4 := Aside0.mk (blk_below BK4.out hb); have BK5 := Aside0.mk hbox; have HP5 := Aside0.mk (Kd.R_below HP14.out hb); have GE5 := Aside0.mk (show w.heap.size ≤ gb5 by rw [hg]; exact HW14.out.size); clear hb hbox hg; have hcz5_0 : w5.cell? ⟨gb5, 0, none⟩ = some (.int .i8 0) := (blk_cell BK5.out 0).trans rfl; have hcz5_1 : w5.cell? ⟨gb5, 1, none⟩ = some (.slice none 0 0) := (blk_cell BK5.out 1).trans rfl; have hcz5_2 : w5.cell? ⟨gb5, 2, none⟩ = some (.slice none 0 0) := (blk_cell BK5.out 2).trans rfl; have hfz5_0 := blk_frozen BK5.out 0; have hfz5_1 := blk_frozen BK5.out 1; have hfz5_2 := blk_frozen BK5.out 2; have hnb5 := NB52.out; have hnc5 := NB52.out.symm; have hcy5_1 : w5.cell? ⟨gb2, 1, none⟩ = some (.slice A1 l1.length c1) := (blk_cell BK2.out 1).trans rfl))
  have e0 : (Kd.R k68 68 ((((w5.setCell ⟨gb5, 0, none⟩ (.int .i8 a0)).setCell ⟨gb5, 1, none⟩ (.slice none 0 0)).setCell ⟨gb5, 2, none⟩ (.slice none 0 0))) w0.heap.size (fun k => w.heap.size ≤ k) (.slice none 0 0) ([] : List S68)) := Kd.R_nil _ _ _ _ _
  have HE0 := Aside0.mk e0
  clear e0
  have HWs := Aside0.mk (show Below w.heap.size w ((((w5.setCell ⟨gb5, 0, none⟩ (.int .i8 a0)).setCell ⟨gb5, 1, none⟩ (.slice none 0 0)).setCell ⟨gb5, 2, none⟩ (.slice none 0 0))) from below_set (below_set (below_set HW5.out GE5.out) GE5.out) GE5.out)
  have HPs := Aside0.mk (Kd.R_set (Kd.R_set (Kd.R_set HP5.out BK5.out (by decide) 0 (.int .i8 a0)) (blk_put BK5.out 0 (.int .i8 a0) rfl) (by decide) 1 (.slice none 0 0)) (blk_put (blk_put BK5.out 0 (.int .i8 a0) rfl) 1 (.slice none 0 0) rfl) (by decide) 2 (.slice none 0 0))
  have BK5s := Aside0.mk (blk_put (blk_put (blk_put BK5.out 0 (.int .i8 a0) rfl) 1 (.slice none 0 0) rfl) 2 (.slice none 0 0) rfl)
  have BK2s := Aside0.mk (blk_far (p := ⟨gb5, 2, none⟩) (blk_far (p := ⟨gb5, 1, none⟩) (blk_far (p := ⟨gb5, 0, none⟩) BK2.out NB52.out.symm (.int .i8 a0)) NB52.out.symm (.slice none 0 0)) NB52.out.symm (.slice none 0 0))
  have BK4s := Aside0.mk (blk_far (p := ⟨gb5, 2, none⟩) (blk_far (p := ⟨gb5, 1, none⟩) (blk_far (p := ⟨gb5, 0, none⟩) BK4.out NB54.out.symm (.int .i8 a0)) NB54.out.symm (.slice none 0 0)) NB54.out.symm (.slice none 0 0))
  clear HP5 BK5 BK2 BK4 HW5 HW14 HW4 HW2 HP14 hcz5_0 hcz5_1 hcz5_2 hfz5_0 hfz5_1 hfz5_2 hnb5 hnc5 hcy5_1
  go_loopg [6, 18] l1.length (fun gq v6 v18 w' => ∃ (i : Nat) (pl : List Int) (og : List S68) (u1 : Value), v18 = .int .i64 i ∧ Aside0 (i ≤ l1.length) ∧ Aside0 (l1.length - i ≤ gq) ∧ Aside0 (renL step (l1.drop i) i pl og = RR) ∧ Aside0 (pl.length = i) ∧ Aside0 (og.length ≤ i) ∧ Aside0 (Kd.R (Kd.int .i16) 66 w' w.heap.size (fun _ => True) v6 pl) ∧ Aside0 (Kd.R k68 68 w' w0.heap.size (fun k => w.heap.size ≤ k) u1 og) ∧ Aside0 (w'.heap[gb2]? = some (.cells #[.int .i8 a0, .slice A1 l1.length c1, .slice A2 l2.length c2] 30 (0, 0))) ∧ Aside0 (w'.heap[gb4]? = some (.cells #[.int .i8 0, .slice none 0 0, .slice none 0 0] 30 (0, 0))) ∧ Aside0 (w'.heap[gb5]? = some (.cells #[.int .i8 a0, u1, .slice none 0 0] 30 (0, 0))) ∧ Aside0 (Below w0.heap.size w0 w') ∧ Aside0 (w.heap.size ≤ w'.heap.size) ∧ Aside0 (Cst w' og) ∧ Aside0 (Inv i pl og))
  case atStart =>
    exact ⟨0, [], [], .slice none 0 0, rfl, ⟨Nat.zero_le _⟩, ⟨by omega⟩, ⟨HRR.out.symm⟩, ⟨rfl⟩, ⟨Nat.le_refl _⟩, HPs, HE0, BK2s, BK4s, BK5s, ⟨below_up HB.out HS.out HWs.out⟩, ⟨HWs.out.size⟩, ⟨HST.out _ _ _ HC.out HWs.out⟩, HI0⟩
  case round =>
    clear HPs HE0 BK2s BK4s BK5s HWs HC HB HW
    obtain ⟨i, pl, og, u1, rfl, HI, HG, HA, HPL, HOG, HOp, HOg, BK2, BK4, BK5, HB, HZ, HC, HIV⟩ := hrel
    have hi := HI.out
    by_cases hlt : i < l1.length
    · have hltz : (i : Int) < (l1.length : Int) := by omega
      obtain ⟨x, hx⟩ : ∃ x, l1[i]? = some x := ⟨l1[i], List.getElem?_eq_getElem hlt⟩
      have hrd : rd_T68 l1 (i : Int) = x := by simp [rd_T68, List.getD_eq_getElem?_getD, hx]
      have hdrop : l1.drop i = x :: l1.drop (i + 1) := by
        rw [List.drop_eq_getElem_cons hlt]
        have := List.getElem?_eq_getElem hlt
        rw [hx] at this
        cases this; rfl
      have ha := HA.out
      rw [hdrop] at ha
      obtain ⟨ad, ea, hx0, hx1, hx2⟩ := at_T68 HR1.out (i : Int) (by omega) (by omega)
      cases ea
      rw [hrd] at hx0 hx1 hx2
      replace hx0 := (HB.out.cell (World.block_lt_of_cell? w0 _ hx0)).trans hx0
      replace hx1 := (HB.out.cell (World.block_lt_of_cell? w0 _ hx1)).trans hx1
      replace hx2 := (HB.out.cell (World.block_lt_of_cell? w0 _ hx2)).trans hx2
      simp only [Int.toNat_natCast] at hx0 hx1 hx2
      obtain ⟨x0, x1, x2⟩ := x
      simp only at hx0 hx1 hx2
      have HX := Aside0.mk hx
      have HA := Aside0.mk ha
      have HLT := Aside0.mk hlt
      clear hrd hdrop ha hx hi hlt
      obtain ⟨Ap, cp, ep⟩ := Kd.R_slice HOp.out
      subst ep
      have hgp : impl_Gate_isPair.f x0 x1 x2 = some (decide (x0 = 2 ∨ x0 = 3)) := by
        unfold impl_Gate_isPair.f
        by_cases h2 : x0 = 2
        · simp [h2]
        · rw [if_neg h2]; by_cases h3 : x0 = 3 <;> simp [h2, h3]
      by_cases hpair : x0 = 2 ∨ x0 = 3
      · rw [decide_eq_true hpair] at hgp
        have HGP := Aside0.mk hgp
        have hv_ := HV.out i ⟨x0, x1, x2⟩ HX.out hpair
        have ha := HA.out
        rw [renL] at ha
        simp only [if_pos hpair] at ha
        have hI_ := HIS.out i pl og ⟨x0, x1, x2⟩ HX.out HPL.out HIV.out
        simp only [if_pos hpair] at hI_
        have HIP := Aside0.mk hI_
        clear hI_
        have pl_ := HPL.out
        obtain ⟨adp, eap, hp1⟩ := Kd.at_int (Kd.R_reads' HOp.out).2.2 x1 (by simpa using hv_.1) (by have := hv_.2.1; simp only at this; omega)
        cases eap
        have HP1 := Aside0.mk hv_.1
        have HP2 := Aside0.mk (show x1 < (pl.length : Int) by have := hv_.2.1; simp only at this; omega)
        have HP3 := Aside0.mk hv_.2.2.1
        have HP4 := Aside0.mk (show x2 < (pl.length : Int) by have := hv_.2.2.2; simp only at this; omega)
        have HA0 := Aside0.mk ha
        clear HA hgp hpair hv_ pl_ hp1 ha
        go_wp2_with (first
          | ((with_reducible refine gate_dst (N := 8) rfl ?_); refine box_event ?hg (N := 8) ?hd (cs := #[.int .i8 0, .int .i16 0, .int .i16 0]) (t := 68) ?hr ?_; (case hd => rfl); (case hg => rfl); (case hr => first | (go_simp; done) | (go_simp; rfl)); intro gb8 hg w8 hbox hb; have GE8 := Aside0.mk (show w.heap.size ≤ gb8 by rw [hg]; exact HZ.out); have N2 := Aside0.mk (show gb2 ≠ gb8 by rw [hg]; exact Nat.ne_of_lt (blk_lt BK2.out)); have N4 := Aside0.mk (show gb4 ≠ gb8 by rw [hg]; exact Nat.ne_of_lt (blk_lt BK4.out)); have N5 := Aside0.mk (show gb5 ≠ gb8 by rw [hg]; exact Nat.ne_of_lt (blk_lt BK5.out)); have F0 : Fr gb2 gb4 gb5 gb8 _ _ _ w0 w wr (.slice (some adp) pl.length cp) u1 pl og wr := ⟨HOp.out, Kd.R_elderB HOg.out gb8 (by rw [hg]; exact Nat.le_refl _), BK2.out, BK4.out, BK5.out, HB.out, HZ.out, Below.refl _ _⟩; have F8 := Aside0.mk (F0.below hb); have BK8 := Aside0.mk hbox; clear F0 hb hbox hg; have hcz8_0 : w8.cell? ⟨gb8, 0, none⟩ = some (.int .i8 0) := (blk_cell BK8.out 0).trans rfl; have hcz8_1 : w8.cell? ⟨gb8, 1, none⟩ = some (.int .i16 0) := (blk_cell BK8.out 1).trans rfl; have hcz8_2 : w8.cell? ⟨gb8, 2, none⟩ = some (.int .i16 0) := (blk_cell BK8.out 2).trans rfl; have hfz8_0 := blk_frozen BK8.out 0; have hfz8_1 := blk_frozen BK8.out 1; have hfz8_2 := blk_frozen BK8.out 2)
          | (go_at_call 49; (with_reducible refine (impl_Gate_isPair.calls x0 x1 x2 true _ HGP.out).mono ?_); rintro e w49 ⟨rfl, hb⟩; have F49 := Aside0.mk ((((F8.out.set BK8.out GE8.out HS.out N2.out N4.out N5.out 0 (.int .i8 x0)).set (blk_put BK8.out 0 (.int .i8 x0) rfl) GE8.out HS.out N2.out N4.out N5.out 1 (.int .i16 x1)).set (blk_put (blk_put BK8.out 0 (.int .i8 x0) rfl) 1 (.int .i16 x1) rfl) GE8.out HS.out N2.out N4.out N5.out 2 (.int .i16 x2)).below hb); have BK49 := Aside0.mk (blk_below (blk_put (blk_put (blk_put BK8.out 0 (.int .i8 x0) rfl) 1 (.int .i16 x1) rfl) 2 (.int .i16 x2) rfl) hb); clear hb F8 BK8 hcz8_0 hcz8_1 hcz8_2 hfz8_0 hfz8_1 hfz8_2; have hcx_0 : w49.cell? ⟨gb8, 0, none⟩ = some (.int .i8 x0) := (blk_cell BK49.out 0).trans rfl; have hcx_1 : w49.cell? ⟨gb8, 1, none⟩ = some (.int .i16 x1) := (blk_cell BK49.out 1).trans rfl; have hcx_2 : w49.cell? ⟨gb8, 2, none⟩ = some (.int .i16 x2) := (blk_cell BK49.out 2).trans rfl))
        have q1 := eq_true HP1.out
        have q2 := eq_true HP2.out
        have q3 := eq_true HP3.out
        have q4 := eq_true HP4.out
        try simp only at q1 q3
        refine start_ (n := 14) (S := fun w' => w'.cell? ⟨gb8, 2, none⟩ = some (.int .i16 x2) ∧ w'.cell? (adp.add x1.toNat) = some (.int .i16 (rd pl x1)) ∧ w'.cell? (adp.add x2.toNat) = some (.int .i16 (rd pl x2))) (ds := [13]) #[false, false, false, false, false, false, false, false, false, false, false, false, false, false] (by kernel_rfl) rfl rfl ⟨(blk_cell BK49.out 2).trans rfl, (by obtain ⟨a_, e_, h_⟩ := Kd.at_int (Kd.R_reads' F49.out.op).2.2 x1 HP1.out HP2.out; cases e_; exact h_), (by obtain ⟨a_, e_, h_⟩ := Kd.at_int (Kd.R_reads' F49.out.op).2.2 x2 HP3.out HP4.out; cases e_; exact h_)⟩ (fun hHeld => ?_)
        clear hcx_0 hcx_1 hcx_2
        have FD := Aside0.mk (F49.out.below (Below.drew (Below.refl _ _)))
        have BKD := Aside0.mk (show w49.drew.heap[gb8]? = _ from BK49.out)
        clear F49 BK49
        generalize w49.drew = wd at FD BKD hHeld ⊢
        have hcd_1 : wd.cell? ⟨gb8, 1, none⟩ = some (.int .i16 x1) := (blk_cell BKD.out 1).trans rfl
        have hcd_2 : wd.cell? ⟨gb8, 2, none⟩ = some (.int .i16 x2) := (blk_cell BKD.out 2).trans rfl
        have hfd_1 := blk_frozen BKD.out 1
        have hfd_2 := blk_frozen BKD.out 2
        have hnp := Aside0.mk (show adp.block ≠ gb8 from Kd.own_blk (Kd.R_ne FD.out.op BKD.out (by decide)))
        have HD := Aside0.mk hHeld
        refine pure_ (i := 0) (N := some 25) (v := ?_) (a' := ?_) #[true, false, false, false, false, false, false, false, false, false, false, false, false, false] rfl rfl (by kernel_rfl) (fun _ _ _ h => h) (Or.inl ⟨by rfl, ?_⟩) ?_ ?_
        rotate_left
        · intro w'
          go_simp
          with_reducible rfl
        rotate_left
        · simp only [Act.put, List.setIfInBounds_toArray, List.set_cons_zero, List.set_cons_succ, i64_w, i32_w]
          rfl
        refine pure_ (i := 1) (N := some 26) (v := ?_) (a' := ?_) #[true, true, false, false, false, false, false, false, false, false, false, false, false, false] rfl rfl (by kernel_rfl) (fun _ _ _ h => h) (Or.inl ⟨by rfl, ?_⟩) ?_ ?_
        rotate_left
        · intro w'
          go_simp
          with_reducible rfl
        rotate_left
        · simp only [Act.put, List.setIfInBounds_toArray, List.set_cons_zero, List.set_cons_succ, i64_w, i32_w]
          rfl
        refine pure_ (i := 5) (N := some 30) (v := ?_) (a' := ?_) #[true, true, false, false, false, true, false, false, false, false, false, false, false, false] rfl rfl (by kernel_rfl) (fun _ _ _ h => h) (Or.inl ⟨by rfl, ?_⟩) ?_ ?_
        rotate_left
        · intro w'
          go_simp
          with_reducible rfl
        rotate_left
        · simp only [Act.put, List.setIfInBounds_toArray, List.set_cons_zero, List.set_cons_succ, i64_w, i32_w]
          rfl
        refine pure_ (i := 6) (N := some 31) (v := ?_) (a' := ?_) #[true, true, false, false, false, true, true, false, false, false, false, false, false, false] rfl rfl (by kernel_rfl) (fun _ _ _ h => h) (Or.inl ⟨by rfl, ?_⟩) ?_ ?_
        rotate_left
        · intro w'
          go_simp
          with_reducible rfl
        rotate_left
        · simp only [Act.put, List.setIfInBounds_toArray, List.set_cons_zero, List.set_cons_succ, i64_w, i32_w]
          rfl
        refine take_ (i := 7) (N := some 32) (v := ?_) (a' := ?_) #[true, true, false, false, false, true, true, true, false, false, false, false, false, false] rfl rfl (by kernel_rfl) (fun _ _ _ h => h) (Or.inl ⟨by rfl, ?_⟩) hHeld ?_ ?_
        rotate_left
        · rintro w' ⟨s0, s1, s2⟩
          go_simp
          with_reducible rfl
        rotate_left
        · simp only [Act.put, List.setIfInBounds_toArray, List.set_cons_zero, List.set_cons_succ, i64_w, i32_w]
          rfl
        refine pure_ (i := 8) (N := some 33) (v := ?_) (a' := ?_) #[true, true, false, false, false, true, true, true, true, false, false, false, false, false] rfl rfl (by kernel_rfl) (fun _ _ _ h => h) (Or.inl ⟨by rfl, ?_⟩) ?_ ?_
        rotate_left
        · intro w'
          go_simp
          with_reducible rfl
        rotate_left
        · simp only [Act.put, List.setIfInBounds_toArray, List.set_cons_zero, List.set_cons_succ, i64_w, i32_w]
          rfl
        refine take_ (i := 9) (N := some 34) (v := ?_) (a' := ?_) #[true, true, false, false, false, true, true, true, true, true, false, false, false, false] rfl rfl (by kernel_rfl) (fun _ _ _ h => h) (Or.inl ⟨by rfl, ?_⟩) hHeld ?_ ?_
        rotate_left
        · rintro w' ⟨s0, s1, s2⟩
          go_simp
          with_reducible rfl
        rotate_left
        · simp only [Act.put, List.setIfInBounds_toArray, List.set_cons_zero, List.set_cons_succ, i64_w, i32_w]
          rfl
        refine one_ (i := 2) (N := some 27) #[true, true, true, false, false, true, true, true, true, true, false, false, false, false] rfl rfl (by kernel_rfl) (by decide) (fun K hK => ?_)
        refine value_ (w1 := ?_) (v := ?_) (by rfl) rfl ?_ ?_
        rotate_left 2
        · go_simp
          constructor
          · rfl
          · rfl
        refine hK.out _ _ ⟨HD.out.1, HD.out.2.1, HD.out.2.2⟩ (fun hHeld => ?_)
        clear hK K
        refine norm_ (a' := ?_) ?_ ?_
        rotate_left
        · show Act.put _ (some 27) _ = _
          simp only [Act.put, List.setIfInBounds_toArray, List.set_cons_zero, List.set_cons_succ, i64_w, i32_w]
          rfl
        refine pure_ (i := 3) (N := some 28) (v := ?_) (a' := ?_) #[true, true, true, true, false, true, true, true, true, true, false, false, false, false] rfl rfl (by kernel_rfl) (fun _ _ _ h => h) (Or.inl ⟨by rfl, ?_⟩) ?_ ?_
        rotate_left
        · intro w'
          go_simp
          with_reducible rfl
        rotate_left
        · simp only [Act.put, List.setIfInBounds_toArray, List.set_cons_zero, List.set_cons_succ, i64_w, i32_w]
          rfl
        refine take_ (i := 4) (N := some 29) (v := ?_) (a' := ?_) #[true, true, true, true, true, true, true, true, true, true, false, false, false, false] rfl rfl (by kernel_rfl) (fun _ _ _ h => h) (Or.inl ⟨by rfl, ?_⟩) hHeld ?_ ?_
        rotate_left
        · rintro w' ⟨s0, s1, s2⟩
          go_simp
          with_reducible rfl
        rotate_left
        · simp only [Act.put, List.setIfInBounds_toArray, List.set_cons_zero, List.set_cons_succ, i64_w, i32_w]
          rfl
        refine pure_ (i := 10) (N := some 35) (v := ?_) (a' := ?_) #[true, true, true, true, true, true, true, true, true, true, true, false, false, false] rfl rfl (by kernel_rfl) (fun _ _ _ h => h) (Or.inl ⟨by rfl, ?_⟩) ?_ ?_
        rotate_left
        · intro w'
          go_simp
          with_reducible rfl
        rotate_left
        · simp only [Act.put, List.setIfInBounds_toArray, List.set_cons_zero, List.set_cons_succ, i64_w, i32_w]
          rfl
        refine one_ (i := 11) (N := none) #[true, true, true, true, true, true, true, true, true, true, true, true, false, false] rfl rfl (by kernel_rfl) (by decide) (fun K hK => ?_)
        refine skip_ (w1 := ?_) (by rfl) rfl ?_ ?_
        rotate_left
        · go_simp
          rfl
        refine hK.out _ _ ⟨(blk_cell (blk_put BKD.out 1 (.int .i16 (rd pl x1)) rfl) 2).trans rfl, (cell_far (p := ⟨gb8, 1, none⟩) (by rw [add_block]; exact hnp.out) _).trans HD.out.2.1, (cell_far (p := ⟨gb8, 1, none⟩) (by rw [add_block]; exact hnp.out) _).trans HD.out.2.2⟩ (fun hHeld => ?_)
        clear hK K
        refine pure_ (i := 12) (N := some 36) (v := ?_) (a' := ?_) #[true, true, true, true, true, true, true, true, true, true, true, true, true, false] rfl rfl (by kernel_rfl) (fun _ _ _ h => h) (Or.inl ⟨by rfl, ?_⟩) ?_ ?_
        rotate_left
        · intro w'
          go_simp
          with_reducible rfl
        rotate_left
        · simp only [Act.put, List.setIfInBounds_toArray, List.set_cons_zero, List.set_cons_succ, i64_w, i32_w]
          rfl
        refine last_ (i := 13) (N := none) #[true, true, true, true, true, true, true, true, true, true, true, true, true, true] rfl rfl (by kernel_rfl) (by decide) (fun K hK => ?_)
        refine skip_ (w1 := ?_) (by rfl) rfl ?_ ?_
        rotate_left
        · go_simp
          rfl
        refine hK.out _ _ ?_
        clear hK K
        refine done_ (by kernel_rfl) ?_

        have H6 := Aside0.mk ((FD.out.set BKD.out GE8.out HS.out N2.out N4.out N5.out 1 (.int .i16 (rd pl x1))).set (blk_put BKD.out 1 (.int .i16 (rd pl x1)) rfl) GE8.out HS.out N2.out N4.out N5.out 2 (.int .i16 (rd pl x2)))
        have BK86 := Aside0.mk (blk_put (blk_put BKD.out 1 (.int .i16 (rd pl x1)) rfl) 2 (.int .i16 (rd pl x2)) rfl)
        clear FD BKD HD hcd_1 hcd_2 hfd_1 hfd_2 hnp
        generalize (wd.setCell ⟨gb8, 1, none⟩ (.int .i16 (rd pl x1))).setCell ⟨gb8, 2, none⟩ (.int .i16 (rd pl x2)) = w6 at H6 BK86 ⊢
        have ha := HA0.out
        clear HA0
        generalize hst_ : step i ⟨x0, rd pl x1, rd pl x2⟩ og = sr at ha
        have hl_ := HLEN.out i ⟨x0, rd pl x1, rd pl x2⟩ og HOG.out
        have hI1_ := HIP.out
        have KK0 := HK.out i (x0) (rd pl x1) (rd pl x2) gb5 u1 (.slice none 0 0) og w6 HLT.out HOG.out hI1_.1 GE5.out H6.out.hb H6.out.b5 (Kd.R_mono H6.out.og (fun _ hk => hk.1)) H6.out.hz (HST.out _ _ _ HC.out H6.out.hn)
        rw [hst_] at KK0 hl_ hI1_
        obtain ⟨p, lg'⟩ := sr
        simp only at KK0 ha hl_ hI1_
        have HIN := Aside0.mk hI1_.2
        have KK := Aside0.mk KK0
        have HA := Aside0.mk ha
        have HLG := Aside0.mk hl_
        clear KK0 ha hl_ hst_ hI1_
        have hcw_0 : w6.cell? ⟨gb8, 0, none⟩ = some (.int .i8 (x0)) := (blk_cell BK86.out 0).trans rfl
        have hcw_1 : w6.cell? ⟨gb8, 1, none⟩ = some (.int .i16 (rd pl x1)) := (blk_cell BK86.out 1).trans rfl
        have hcw_2 : w6.cell? ⟨gb8, 2, none⟩ = some (.int .i16 (rd pl x2)) := (blk_cell BK86.out 2).trans rfl
        go_wp2_with fail
        refine KK.out.mono ?_
        rintro e w7 ⟨rfl, u1', k1, k2, k3, k4, k5, k6⟩
        have HOg7 := Aside0.mk k1
        have HOp7 := Aside0.mk (keep_row H6.out.op H6.out.b5 H6.out.og (fun j a b => k6 j a (.inl b)))
        have BK27 := Aside0.mk (keep_blk H6.out.b2 GE2.out NB52.out.symm H6.out.og (fun j a b => k6 j a (.inl b)))
        have BK47 := Aside0.mk (keep_blk H6.out.b4 GE4.out NB54.out.symm H6.out.og (fun j a b => k6 j a (.inl b)))
        have BK57 := Aside0.mk k2
        have HB7 := Aside0.mk k3
        have HZ7 := Aside0.mk (Nat.le_trans H6.out.hz k4)
        have HC7 := Aside0.mk k5
        clear k1 k2 k3 k4 k5 k6
        go_wp2_with ((with_reducible refine gate_builtin (b := .append) (xs := #[.tmp 37, .tmp 42]) rfl ?_); at_builtin; refine Kd.R_append (Kd.int .i16) (w0 := w7) w.heap.size rfl (.tmp 37) (.tmp 42) 24 66 (.int .i16 0) 2 rfl Try.underlying24 info66 rfl (by decide) (by omega) (.slice (some adp) pl.length cp) pl p [.int .i16 p] (fun _ => True) (fun _ => False) rfl rfl ?aP (fun _ hk => hk.elim) ?aF ?aO ?aB ?aS ?aL ?_; (case aP => exact rfl); (case aF => exact fun _ _ => trivial); (case aO => exact HOp7.out); (case aB => exact Below.refl _ _); (case aS => exact HZ7.out); (case aL => have := HPL.out; have := HLT.out; have := HN.out; omega); intro v9 w9 ho hb hg hat; have HO9 := Aside0.mk ho; have HN9 := Aside0.mk hb; have HOg9 := Aside0.mk (Kd.R_over' HOg7.out (Kd.R_typed HOp7.out) (by decide) hg); have BK2 := Aside0.mk (blk_grown BK27.out hg (Kd.R_ne HOp7.out BK27.out (by decide))); have BK4 := Aside0.mk (blk_grown BK47.out hg (Kd.R_ne HOp7.out BK47.out (by decide))); have BK5 := Aside0.mk (blk_grown BK57.out hg (Kd.R_ne HOp7.out BK57.out (by decide))); clear ho hb hg hat)
        go_roundg (l1.length - (i + 1))
        case measure => have := HG.out; have := HLT.out; omega
        case rel => have hn_ := HN.out; have hlt_ := HLT.out; exact ⟨i + 1, pl ++ [p], lg', u1', congrArg (Value.int .i64) (show wrap64 ((i : Int) + 1) = ((i + 1 : Nat) : Int) by unfold wrap64; omega), ⟨HLT.out⟩, ⟨by omega⟩, HA, ⟨by simp [HPL.out]⟩, HLG, HO9, HOg9, BK2, BK4, BK5, ⟨below_up HB7.out HS.out HN9.out⟩, ⟨Nat.le_trans HZ7.out HN9.out.size⟩, ⟨HST.out _ _ _ HC7.out HN9.out⟩, HIN⟩
      · rw [decide_eq_false hpair] at hgp
        have HGP := Aside0.mk hgp
        have ha := HA.out
        rw [renL] at ha
        simp only [if_neg hpair] at ha
        have hI_ := HIS.out i pl og ⟨x0, x1, x2⟩ HX.out HPL.out HIV.out
        simp only [if_neg hpair] at hI_
        have HIP := Aside0.mk hI_
        clear hI_
        have HA0 := Aside0.mk ha
        clear HA hgp hpair ha
        go_wp2_with (first
          | ((with_reducible refine gate_dst (N := 8) rfl ?_); refine box_event ?hg (N := 8) ?hd (cs := #[.int .i8 0, .int .i16 0, .int .i16 0]) (t := 68) ?hr ?_; (case hd => rfl); (case hg => rfl); (case hr => first | (go_simp; done) | (go_simp; rfl)); intro gb8 hg w8 hbox hb; have GE8 := Aside0.mk (show w.heap.size ≤ gb8 by rw [hg]; exact HZ.out); have N2 := Aside0.mk (show gb2 ≠ gb8 by rw [hg]; exact Nat.ne_of_lt (blk_lt BK2.out)); have N4 := Aside0.mk (show gb4 ≠ gb8 by rw [hg]; exact Nat.ne_of_lt (blk_lt BK4.out)); have N5 := Aside0.mk (show gb5 ≠ gb8 by rw [hg]; exact Nat.ne_of_lt (blk_lt BK5.out)); have F0 : Fr gb2 gb4 gb5 gb8 _ _ _ w0 w wr (.slice Ap pl.length cp) u1 pl og wr := ⟨HOp.out, Kd.R_elderB HOg.out gb8 (by rw [hg]; exact Nat.le_refl _), BK2.out, BK4.out, BK5.out, HB.out, HZ.out, Below.refl _ _⟩; have F8 := Aside0.mk (F0.below hb); have BK8 := Aside0.mk hbox; clear F0 hb hbox hg; have hcz8_0 : w8.cell? ⟨gb8, 0, none⟩ = some (.int .i8 0) := (blk_cell BK8.out 0).trans rfl; have hcz8_1 : w8.cell? ⟨gb8, 1, none⟩ = some (.int .i16 0) := (blk_cell BK8.out 1).trans rfl; have hcz8_2 : w8.cell? ⟨gb8, 2, none⟩ = some (.int .i16 0) := (blk_cell BK8.out 2).trans rfl; have hfz8_0 := blk_frozen BK8.out 0; have hfz8_1 := blk_frozen BK8.out 1; have hfz8_2 := blk_frozen BK8.out 2)
          | (go_at_call 49; (with_reducible refine (impl_Gate_isPair.calls x0 x1 x2 false _ HGP.out).mono ?_); rintro e w49 ⟨rfl, hb⟩; have F49 := Aside0.mk ((((F8.out.set BK8.out GE8.out HS.out N2.out N4.out N5.out 0 (.int .i8 x0)).set (blk_put BK8.out 0 (.int .i8 x0) rfl) GE8.out HS.out N2.out N4.out N5.out 1 (.int .i16 x1)).set (blk_put (blk_put BK8.out 0 (.int .i8 x0) rfl) 1 (.int .i16 x1) rfl) GE8.out HS.out N2.out N4.out N5.out 2 (.int .i16 x2)).below hb); have BK49 := Aside0.mk (blk_below (blk_put (blk_put (blk_put BK8.out 0 (.int .i8 x0) rfl) 1 (.int .i16 x1) rfl) 2 (.int .i16 x2) rfl) hb); clear hb F8 BK8 hcz8_0 hcz8_1 hcz8_2 hfz8_0 hfz8_1 hfz8_2; have hcx_0 : w49.cell? ⟨gb8, 0, none⟩ = some (.int .i8 x0) := (blk_cell BK49.out 0).trans rfl; have hcx_1 : w49.cell? ⟨gb8, 1, none⟩ = some (.int .i16 x1) := (blk_cell BK49.out 1).trans rfl; have hcx_2 : w49.cell? ⟨gb8, 2, none⟩ = some (.int .i16 x2) := (blk_cell BK49.out 2).trans rfl))
        have H6 := F49
        have BK86 := BK49
        clear F49 BK49
        have ha := HA0.out
        clear HA0
        generalize hst_ : step i ⟨x0, x1, x2⟩ og = sr at ha
        have hl_ := HLEN.out i ⟨x0, x1, x2⟩ og HOG.out
        have hI1_ := HIP.out
        have KK0 := HK.out i (x0) (x1) (x2) gb5 u1 (.slice none 0 0) og w49 HLT.out HOG.out hI1_.1 GE5.out H6.out.hb H6.out.b5 (Kd.R_mono H6.out.og (fun _ hk => hk.1)) H6.out.hz (HST.out _ _ _ HC.out H6.out.hn)
        rw [hst_] at KK0 hl_ hI1_
        obtain ⟨p, lg'⟩ := sr
        simp only at KK0 ha hl_ hI1_
        have HIN := Aside0.mk hI1_.2
        have KK := Aside0.mk KK0
        have HA := Aside0.mk ha
        have HLG := Aside0.mk hl_
        clear KK0 ha hl_ hst_ hI1_
        have hcw_0 : w49.cell? ⟨gb8, 0, none⟩ = some (.int .i8 (x0)) := (blk_cell BK86.out 0).trans rfl
        have hcw_1 : w49.cell? ⟨gb8, 1, none⟩ = some (.int .i16 (x1)) := (blk_cell BK86.out 1).trans rfl
        have hcw_2 : w49.cell? ⟨gb8, 2, none⟩ = some (.int .i16 (x2)) := (blk_cell BK86.out 2).trans rfl
        go_wp2_with fail
        refine KK.out.mono ?_
        rintro e w7 ⟨rfl, u1', k1, k2, k3, k4, k5, k6⟩
        have HOg7 := Aside0.mk k1
        have HOp7 := Aside0.mk (keep_row H6.out.op H6.out.b5 H6.out.og (fun j a b => k6 j a (.inl b)))
        have BK27 := Aside0.mk (keep_blk H6.out.b2 GE2.out NB52.out.symm H6.out.og (fun j a b => k6 j a (.inl b)))
        have BK47 := Aside0.mk (keep_blk H6.out.b4 GE4.out NB54.out.symm H6.out.og (fun j a b => k6 j a (.inl b)))
        have BK57 := Aside0.mk k2
        have HB7 := Aside0.mk k3
        have HZ7 := Aside0.mk (Nat.le_trans H6.out.hz k4)
        have HC7 := Aside0.mk k5
        clear k1 k2 k3 k4 k5 k6
        go_wp2_with ((with_reducible refine gate_builtin (b := .append) (xs := #[.tmp 37, .tmp 42]) rfl ?_); at_builtin; refine Kd.R_append (Kd.int .i16) (w0 := w7) w.heap.size rfl (.tmp 37) (.tmp 42) 24 66 (.int .i16 0) 2 rfl Try.underlying24 info66 rfl (by decide) (by omega) (.slice Ap pl.length cp) pl p [.int .i16 p] (fun _ => True) (fun _ => False) rfl rfl ?aP (fun _ hk => hk.elim) ?aF ?aO ?aB ?aS ?aL ?_; (case aP => exact rfl); (case aF => exact fun _ _ => trivial); (case aO => exact HOp7.out); (case aB => exact Below.refl _ _); (case aS => exact HZ7.out); (case aL => have := HPL.out; have := HLT.out; have := HN.out; omega); intro v9 w9 ho hb hg hat; have HO9 := Aside0.mk ho; have HN9 := Aside0.mk hb; have HOg9 := Aside0.mk (Kd.R_over' HOg7.out (Kd.R_typed HOp7.out) (by decide) hg); have BK2 := Aside0.mk (blk_grown BK27.out hg (Kd.R_ne HOp7.out BK27.out (by decide))); have BK4 := Aside0.mk (blk_grown BK47.out hg (Kd.R_ne HOp7.out BK47.out (by decide))); have BK5 := Aside0.mk (blk_grown BK57.out hg (Kd.R_ne HOp7.out BK57.out (by decide))); clear ho hb hg hat)
        go_roundg (l1.length - (i + 1))
        case measure => have := HG.out; have := HLT.out; omega
        case rel => have hn_ := HN.out; have hlt_ := HLT.out; exact ⟨i + 1, pl ++ [p], lg', u1', congrArg (Value.int .i64) (show wrap64 ((i : Int) + 1) = ((i + 1 : Nat) : Int) by unfold wrap64; omega), ⟨HLT.out⟩, ⟨by omega⟩, HA, ⟨by simp [HPL.out]⟩, HLG, HO9, HOg9, BK2, BK4, BK5, ⟨below_up HB7.out HS.out HN9.out⟩, ⟨Nat.le_trans HZ7.out HN9.out.size⟩, ⟨HST.out _ _ _ HC7.out HN9.out⟩, HIN⟩
    · have e1 : i = l1.length := by omega
      have ha := HA.out
      rw [e1, List.drop_length, renL] at ha
      subst ha
      have hltz : ¬ (i : Int) < (l1.length : Int) := by omega
      obtain ⟨Ap, cp, ep⟩ := Kd.R_slice HOp.out
      subst ep
      have E1 := Aside0.mk e1
      have hcz2_2 : wr.cell? ⟨gb2, 2, none⟩ = some (.slice A2 l2.length c2) := (blk_cell BK2.out 2).trans rfl
      have HE2 := Aside0.mk (show Kd.R (Kd.int .i16) 66 wr w.heap.size (fun k => some k ≠ (Value.slice Ap pl.length cp).ownBlock) (.slice none 0 0) ([] : List Int) from Kd.R_nil _ _ _ _ _)
      clear e1 hi hlt HA
      go_wp2
      go_loopg [48] l2.length (fun gq v48 w' => ∃ (j : Nat) (ol : List Int) (u2 : Value), v48 = .int .i64 j ∧ Aside0 (j ≤ l2.length) ∧ Aside0 (l2.length - j ≤ gq) ∧ Aside0 (ol = (l2.take j).map (rd pl)) ∧ Aside0 (Kd.R (Kd.int .i16) 66 w' w.heap.size (fun k => some k ≠ u2.ownBlock) (.slice Ap pl.length cp) pl) ∧ Aside0 (Kd.R k68 68 w' w0.heap.size (fun k => w.heap.size ≤ k) u1 og) ∧ Aside0 (Kd.R (Kd.int .i16) 66 w' w.heap.size (fun k => some k ≠ (Value.slice Ap pl.length cp).ownBlock) u2 ol) ∧ Aside0 (w'.heap[gb2]? = some (.cells #[.int .i8 a0, .slice A1 l1.length c1, .slice A2 l2.length c2] 30 (0, 0))) ∧ Aside0 (w'.heap[gb4]? = some (.cells #[.int .i8 0, .slice none 0 0, .slice none 0 0] 30 (0, 0))) ∧ Aside0 (w'.heap[gb5]? = some (.cells #[.int .i8 a0, u1, u2] 30 (0, 0))) ∧ Aside0 (Below w0.heap.size w0 w') ∧ Aside0 (w.heap.size ≤ w'.heap.size) ∧ Aside0 (Cst w' og))
      case atStart =>
        exact ⟨0, [], .slice none 0 0, rfl, ⟨Nat.zero_le _⟩, ⟨by omega⟩, ⟨rfl⟩, ⟨Kd.R_mono HOp.out (fun k _ => by simp [Value.ownBlock])⟩, HOg, HE2, BK2, BK4, BK5, HB, HZ, HC⟩
      case round =>
        clear HOp HOg HE2 BK2 BK4 BK5 HB HZ HC hcz2_2 hltz HG
        obtain ⟨j, ol, u2, rfl, HJ, HG, HOL, HOp, HOg, HO2, BK2, BK4, BK5, HB, HZ, HC⟩ := hrel
        have hj := HJ.out
        by_cases hlt : j < l2.length
        · have hltz : (j : Int) < (l2.length : Int) := by omega
          obtain ⟨x, hx⟩ : ∃ x, l2[j]? = some x := ⟨l2[j], List.getElem?_eq_getElem hlt⟩
          have hrd : rd l2 (j : Int) = x := by simp [rd, List.getD_eq_getElem?_getD, hx]
          have ho_ := HO.out j x hx
          obtain ⟨ad, ea, hx0⟩ := Kd.at_int HR2.out (j : Int) (by omega) (by omega)
          cases ea
          rw [hrd] at hx0
          replace hx0 := (HB.out.cell (World.block_lt_of_cell? w0 _ hx0)).trans hx0
          simp only [Int.toNat_natCast] at hx0
          have hpl := HPL.out
          have he1 := E1.out
          have hpx : x < (pl.length : Int) := by omega
          obtain ⟨adp, eap, hp1⟩ := Kd.at_int (Kd.R_reads' HOp.out).2.2 x ho_.1 hpx
          cases eap
          have q1 := eq_true ho_.1
          have q2 := eq_true hpx
          have HX := Aside0.mk hx
          have HX1 := Aside0.mk ho_.1
          have HX2 := Aside0.mk hpx
          have HLT := Aside0.mk hlt
          have HHX := Aside0.mk hx0
          clear hrd hx ho_ hpl he1 hpx hp1 hj hlt
          go_wp2
          refine start_ (n := 10) (S := fun w' => w'.cell? ⟨gb5, 2, none⟩ = some u2 ∧ w'.cell? (adp.add x.toNat) = some (.int .i16 (rd pl x))) (ds := [7, 9]) #[false, false, false, false, false, false, false, false, false, false] (by kernel_rfl) rfl rfl ⟨(blk_cell BK5.out 2).trans rfl, (by obtain ⟨a_, e_, h_⟩ := Kd.at_int (Kd.R_reads' HOp.out).2.2 x HX1.out HX2.out; cases e_; exact h_)⟩ (fun hHeld => ?_)
          have HOp := Aside0.mk (Kd.R_drew HOp.out)
          have HOg := Aside0.mk (Kd.R_drew HOg.out)
          have HO2 := Aside0.mk (Kd.R_drew HO2.out)
          have BK2 := Aside0.mk (blk_drew BK2.out)
          have BK4 := Aside0.mk (blk_drew BK4.out)
          have BK5 := Aside0.mk (blk_drew BK5.out)
          have HB := Aside0.mk (below_drew1 HB.out)
          have HZ := Aside0.mk (show w.heap.size ≤ wr.drew.heap.size from HZ.out)
          have HC := Aside0.mk (HST.out _ wr.drew _ HC.out (Below.drew (Below.refl _ _)))
          clear hx0
          generalize wr.drew = wd at HOp HOg HO2 BK2 BK4 BK5 HB HZ HC hHeld ⊢
          have HD := Aside0.mk hHeld
          refine pure_ (i := 0) (N := some 52) (v := ?_) (a' := ?_) #[true, false, false, false, false, false, false, false, false, false] rfl rfl (by kernel_rfl) (fun _ _ _ h => h) (Or.inl ⟨by rfl, ?_⟩) ?_ ?_
          rotate_left
          · intro w'
            go_simp
            with_reducible rfl
          rotate_left
          · simp only [Act.put, List.setIfInBounds_toArray, List.set_cons_zero, List.set_cons_succ, i64_w, i32_w]
            rfl
          refine pure_ (i := 2) (N := some 54) (v := ?_) (a' := ?_) #[true, false, true, false, false, false, false, false, false, false] rfl rfl (by kernel_rfl) (fun _ _ _ h => h) (Or.inl ⟨by rfl, ?_⟩) ?_ ?_
          rotate_left
          · intro w'
            go_simp
            with_reducible rfl
          rotate_left
          · simp only [Act.put, List.setIfInBounds_toArray, List.set_cons_zero, List.set_cons_succ, i64_w, i32_w]
            rfl
          refine pure_ (i := 3) (N := some 55) (v := ?_) (a' := ?_) #[true, false, true, true, false, false, false, false, false, false] rfl rfl (by kernel_rfl) (fun _ _ _ h => h) (Or.inl ⟨by rfl, ?_⟩) ?_ ?_
          rotate_left
          · intro w'
            go_simp
            with_reducible rfl
          rotate_left
          · simp only [Act.put, List.setIfInBounds_toArray, List.set_cons_zero, List.set_cons_succ, i64_w, i32_w]
            rfl
          refine pure_ (i := 4) (N := some 56) (v := ?_) (a' := ?_) #[true, false, true, true, true, false, false, false, false, false] rfl rfl (by kernel_rfl) (fun _ _ _ h => h) (Or.inl ⟨by rfl, ?_⟩) ?_ ?_
          rotate_left
          · intro w'
            go_simp
            with_reducible rfl
          rotate_left
          · simp only [Act.put, List.setIfInBounds_toArray, List.set_cons_zero, List.set_cons_succ, i64_w, i32_w]
            rfl
          refine take_ (i := 1) (N := some 53) (v := ?_) (a' := ?_) #[true, true, true, true, true, false, false, false, false, false] rfl rfl (by kernel_rfl) (fun _ _ _ h => h) (Or.inl ⟨by rfl, ?_⟩) hHeld ?_ ?_
          rotate_left
          · rintro w' ⟨s0, s1⟩
            go_simp
            with_reducible rfl
          rotate_left
          · simp only [Act.put, List.setIfInBounds_toArray, List.set_cons_zero, List.set_cons_succ, i64_w, i32_w]
            rfl
          refine take_ (i := 5) (N := some 57) (v := ?_) (a' := ?_) #[true, true, true, true, true, true, false, false, false, false] rfl rfl (by kernel_rfl) (fun _ _ _ h => h) (Or.inl ⟨by rfl, ?_⟩) hHeld ?_ ?_
          rotate_left
          · rintro w' ⟨s0, s1⟩
            go_simp
            with_reducible rfl
          rotate_left
          · simp only [Act.put, List.setIfInBounds_toArray, List.set_cons_zero, List.set_cons_succ, i64_w, i32_w]
            rfl
          refine one_ (i := 6) (N := some 58) #[true, true, true, true, true, true, true, false, false, false] rfl rfl (by kernel_rfl) (by decide) (fun K hK => ?_)
          refine value_ (w1 := ?_) (v := ?_) (by rfl) rfl ?_ ?_
          rotate_left 2
          · go_simp
            constructor
            · rfl
            · rfl
          refine hK.out _ _ ⟨(blk_cell (blk_alloc BK5.out _) 2).trans rfl, (World.cell?_alloc_lt _ _ _ (World.block_lt_of_cell? _ _ HD.out.2)).trans HD.out.2⟩ (fun hHeld => ?_)
          clear hK K
          refine norm_ (a' := ?_) ?_ ?_
          rotate_left
          · show Act.put _ (some 58) _ = _
            simp only [Act.put, List.setIfInBounds_toArray, List.set_cons_zero, List.set_cons_succ, i64_w, i32_w]
            rfl
          refine last_ (i := 7) (N := some 59) #[true, true, true, true, true, true, true, true, false, false] rfl rfl (by kernel_rfl) (by decide) (fun K hK => ?_)
          refine Kd.R_append_step (Kd.int .i16) (w0 := wd) w.heap.size (by rfl) (.tmp 53) (.tmp 58) 24 66 (.int .i16 0) 2 rfl Try.underlying24 info66 rfl (by decide) (by omega) u2 ol (rd pl x) [.int .i16 (rd pl x)] (fun k => some k ≠ (Value.slice (some adp) pl.length cp).ownBlock) (fun _ => False) rfl rfl ?aP (fun _ hk => hk.elim) ?aF ?aO ?aB ?aS ?aL ?_
          (case aP => exact rfl)
          (case aF => exact (fun k_ hk => Kd.fresh' (Kd.R_lt HOp.out) k_ hk))
          (case aO => exact HO2.out)
          (case aB => exact Below.refl _ _)
          (case aS => exact HZ.out)
          (case aL => have h1 := HOL.out; have h2 := HM.out; have h3 := HLT.out; have h4 : ol.length ≤ j := (by rw [h1, List.length_map, List.length_take]; exact Nat.min_le_left _ _); omega)
          intro v3 w3 ho hb hg hat
          have HOp3 := Aside0.mk (Kd.R_after (ok := fun _ => True) (Kd.R_mono HOp.out (fun _ hk => ⟨trivial, hk⟩)) hg hat)
          have HOg3 := Aside0.mk (Kd.R_over' HOg.out (Kd.R_typed HO2.out) (by decide) hg)
          have HO23 := Aside0.mk ho
          have BK23 := Aside0.mk (blk_grown BK2.out hg (Kd.R_ne HO2.out BK2.out (by decide)))
          have BK43 := Aside0.mk (blk_grown BK4.out hg (Kd.R_ne HO2.out BK4.out (by decide)))
          have BK53 := Aside0.mk (blk_grown BK5.out hg (Kd.R_ne HO2.out BK5.out (by decide)))
          have HB3 := Aside0.mk (below_up HB.out HS.out hb)
          have HZ3 := Aside0.mk (Nat.le_trans HZ.out hb.size)
          have HC3 := Aside0.mk (HST.out _ _ _ HC.out hb)
          clear ho hb hg hat hHeld HOp HOg HO2 BK2 BK4 BK5 HB HZ HD HC
          obtain ⟨A3, c3, e3⟩ := Kd.R_slice HO23.out
          subst e3
          have hs3 : w3.cell? ⟨gb5, 2, none⟩ = some u2 := (blk_cell BK53.out 2).trans rfl
          have hf3 := blk_frozen BK53.out 2
          refine hK.out _ _ ?_
          clear hK K
          refine norm_ (a' := ?_) ?_ ?_
          rotate_left
          · show Act.put _ (some 59) _ = _
            simp only [Act.put, List.setIfInBounds_toArray, List.set_cons_zero, List.set_cons_succ, i64_w, i32_w]
            rfl
          refine pure_ (i := 8) (N := some 60) (v := ?_) (a' := ?_) #[true, true, true, true, true, true, true, true, true, false] rfl rfl (by kernel_rfl) (fun _ _ _ h => h) (Or.inl ⟨by rfl, ?_⟩) ?_ ?_
          rotate_left
          · intro w'
            go_simp
            with_reducible rfl
          rotate_left
          · simp only [Act.put, List.setIfInBounds_toArray, List.set_cons_zero, List.set_cons_succ, i64_w, i32_w]
            rfl
          refine last_ (i := 9) (N := none) #[true, true, true, true, true, true, true, true, true, true] rfl rfl (by kernel_rfl) (by decide) (fun K hK => ?_)
          refine skip_ (w1 := ?_) (by rfl) rfl ?_ ?_
          rotate_left
          · go_simp
            rfl
          refine hK.out _ _ ?_
          clear hK K
          refine done_ (by kernel_rfl) ?_

          go_wp2
          go_roundg (l2.length - (j + 1))
          case measure => have := HG.out; have := HLT.out; omega
          case rel =>
            have hm_ := HM.out
            have hlt_ := HLT.out
            have ht_ : (l2.take (j + 1)).map (rd pl) = ol ++ [rd pl x] := by
              rw [HOL.out, List.take_add_one, HX.out]; simp
            exact ⟨j + 1, ol ++ [rd pl x], _, congrArg (Value.int .i64) (show wrap64 ((j : Int) + 1) = ((j + 1 : Nat) : Int) by unfold wrap64; omega), ⟨HLT.out⟩, ⟨by omega⟩, ⟨ht_.symm⟩, ⟨Kd.R_mono (Kd.R_set HOp3.out BK53.out (by decide) 2 _) (fun _ hk => hk.2)⟩, ⟨Kd.R_set HOg3.out BK53.out (by decide) 2 _⟩, ⟨Kd.R_set HO23.out BK53.out (by decide) 2 _⟩, ⟨blk_far (p := ⟨gb5, 2, none⟩) BK23.out NB52.out.symm _⟩, ⟨blk_far (p := ⟨gb5, 2, none⟩) BK43.out NB54.out.symm _⟩, ⟨blk_put BK53.out 2 _ (by simp)⟩, ⟨below_set HB3.out (Nat.le_trans HS.out GE5.out)⟩, ⟨by rw [heap_size_setCell]; exact HZ3.out⟩, ⟨HST.out _ _ _ HC3.out ((Below.refl _ _).setCell (p := ⟨gb5, 2, none⟩) GE5.out _)⟩⟩
        · have e2 : j = l2.length := by omega
          have hltz : ¬ (j : Int) < (l2.length : Int) := by omega
          have hol : ol = l2.map (rd pl) := by rw [HOL.out, e2, List.take_length]
          have HOL2 := Aside0.mk hol
          clear hol e2 hj hlt
          obtain ⟨A3, c3, e3⟩ := Kd.R_slice HO2.out
          subst e3
          obtain ⟨A4, c4, e4⟩ := Kd.R_slice HOg.out
          subst e4
          have hcz5_0 : wr.cell? ⟨gb5, 0, none⟩ = some (.int .i8 a0) := (blk_cell BK5.out 0).trans rfl
          have hcz5_1 : wr.cell? ⟨gb5, 1, none⟩ = some (.slice A4 og.length c4) := (blk_cell BK5.out 1).trans rfl
          have hcz5_2 : wr.cell? ⟨gb5, 2, none⟩ = some (.slice A3 ol.length c3) := (blk_cell BK5.out 2).trans rfl
          have hcz4_0 : wr.cell? ⟨gb4, 0, none⟩ = some (.int .i8 0) := (blk_cell BK4.out 0).trans rfl
          have hcz4_1 : wr.cell? ⟨gb4, 1, none⟩ = some (.slice none 0 0) := (blk_cell BK4.out 1).trans rfl
          have hcz4_2 : wr.cell? ⟨gb4, 2, none⟩ = some (.slice none 0 0) := (blk_cell BK4.out 2).trans rfl
          have hfz4_0 := blk_frozen BK4.out 0
          have hfz4_1 := blk_frozen BK4.out 1
          have hfz4_2 := blk_frozen BK4.out 2
          have hnb := NB54.out
          have hnc := NB54.out.symm
          go_wp2
          refine bodyPost_ret (results_single (r := .cell 4 30) rfl (.cell gb4 30 #[.int .i8 a0, .slice A4 og.length c4, .slice A3 ol.length c3] (0, 0) _ rfl (blk_put (blk_put (blk_put BK4.out 0 (.int .i8 a0) rfl) 1 (.slice A4 og.length c4) rfl) 2 (.slice A3 ol.length c3) rfl) Try.underlying30 rfl (by kernel_rfl) .nil)) rfl ?_
          refine ⟨_, _, rfl, ?_, ?_, ?_, ?_⟩
          · exact Kd.R_mono (Kd.R_set (Kd.R_set (Kd.R_set HOg.out BK4.out (by decide) 0 (.int .i8 a0)) (blk_put BK4.out 0 (.int .i8 a0) rfl) (by decide) 1 (.slice A4 og.length c4)) (blk_put (blk_put BK4.out 0 (.int .i8 a0) rfl) 1 (.slice A4 og.length c4) rfl) (by decide) 2 (.slice A3 ol.length c3)) (fun _ _ => trivial)
          · have h := Kd.R_mono (ok' := fun _ => True) (Kd.R_set (Kd.R_set (Kd.R_set HO2.out BK4.out (by decide) 0 (.int .i8 a0)) (blk_put BK4.out 0 (.int .i8 a0) rfl) (by decide) 1 (.slice A4 og.length c4)) (blk_put (blk_put BK4.out 0 (.int .i8 a0) rfl) 1 (.slice A4 og.length c4) rfl) (by decide) 2 (.slice A3 ol.length c3)) (fun _ _ => trivial)
            have h2 := Kd.R_lower h HS.out
            rw [show (l2.map fun o => rd pl o) = ol from HOL2.out.symm]
            exact h2
          · exact below_set (below_set (below_set HB.out (Nat.le_trans HS.out GE4.out)) (Nat.le_trans HS.out GE4.out)) (Nat.le_trans HS.out GE4.out)
          · exact HST.out _ _ _ HC.out ((((Below.refl _ _).setCell (p := ⟨gb4, 0, none⟩) GE4.out _).setCell (p := ⟨gb4, 1, none⟩) GE4.out _).setCell (p := ⟨gb4, 2, none⟩) GE4.out _)
end Go.Proofs.Yteanndgkjoinmaa.X.Mg

namespace Go.Proofs.Yteanndgkjoinmaa.X.Mg
open Go.RowKit Go.Proofs.YteanndgkjoinmaaW.PrintWords Go.Proofs.YteanndgkjoinmaaW.PrintLast Go.Proofs.YteanndgkjoinmaaW.PrintMore Go.Maps
set_option linter.unusedVariables false
set_option linter.unusedSimpArgs false
theorem laid : laidOutB Try.prog = true := by kernel_rfl
theorem row68 : (68 : TypeId) < Try.prog.types.size := of_decide_eq_true (by kernel_rfl)
theorem wide68 : (match Try.prog.underlying 68 with | some (.array _ _) | some (.struct _) => true | _ => false) = true := by kernel_rfl
theorem kt2 : Try.prog.keyTypeAt 2 68 = true := by kernel_rfl
set_option maxRecDepth 100000 in
theorem law68 : Keyed Try.prog 68 := Keyed.of_law (deep_law_laid laid (m := 2) (by omega) row68 kt2 wide68)
theorem kt68 : Try.prog.keyType 68 = true := by kernel_rfl
theorem cells68' : Try.prog.cellsOf 68 = 3 := by kernel_rfl
theorem cells66' : Try.prog.cellsOf 66 = 1 := by kernel_rfl
theorem cells22' : Try.prog.cellsOf 22 = 1 := by kernel_rfl
theorem zero66 (w : World) : (zeroValue 66).run Try.prog w = .ok (.int .i16 0) w := by kernel_rfl
theorem und76 : Try.prog.underlying 76 = some (.map 68 66) := by kernel_rfl
theorem und66 : Try.prog.underlying 66 = some (.int .i16) := by kernel_rfl
theorem und22 : Try.prog.underlying 22 = some (.int .i8) := by kernel_rfl
def kg (y : S68) : Lit := .string (keyBytes [.int .i8 y.f0, .int .i16 y.f1, .int .i16 y.f2])
def wfg (y : S68) : Prop := (Lit.int .i8 y.f0).wf = true ∧ (Lit.int .i16 y.f1).wf = true ∧ (Lit.int .i16 y.f2).wf = true
theorem key_gate {y : S68} (h : wfg y) : keyOf Try.prog 68 (.agg #[.int .i8 y.f0, .int .i16 y.f1, .int .i16 y.f2]) = some (kg y) := by
  obtain ⟨h0, h1, h2⟩ := h
  obtain ⟨m, hm⟩ : ∃ m, Try.prog.types.size = m + 1 := ⟨Try.prog.types.size - 1, by have h : 68 < Try.prog.types.size := row68; omega⟩
  unfold keyOf
  simp only [Try.underlying68]
  rw [if_pos (by simp [kt68, Value.formed, Try.underlying68, cells68']), hm]
  unfold Program.keyLits
  simp only [Try.underlying68, Value.cells]
  rw [if_pos (by simp [cells68'])]
  simp [Program.keyLits, und66, und22, cells66', cells22', h0, h1, h2, kg]
theorem kg_lit (y : S68) : WideAt.IsKeyLit (kg y) := trivial
theorem kg_inj {x y : S68} (hx : wfg x) (hy : wfg y) (h : kg x = kg y) : x = y := by
  have h1 := key_gate hx
  rw [h] at h1
  have := law68.inj h1 (key_gate hy)
  obtain ⟨a, b, c⟩ := x
  obtain ⟨a', b', c'⟩ := y
  simpa using this
theorem own_heap {H : Type} {P : Program} {k : TypeId} {R : Value → Option (DataW H × List MemPlace)} {w w' : World} {b n : Nat} {D : DataW H} (h : w.ownsMap P k R b n D) (e : w'.heap[b]? = w.heap[b]?) : w'.ownsMap P k R b n D := by
  obtain ⟨es, clock, hb, F, hs, hD⟩ := h
  exact ⟨es, clock, e.trans hb, F, hs, hD⟩
theorem own_not_cells {H : Type} {P : Program} {k : TypeId} {R : Value → Option (DataW H × List MemPlace)} {w : World} {b n : Nat} {D : DataW H} (h : w.ownsMap P k R b n D) {g : Nat} {cs : Array Value} {t : TypeId} {z : Nat × Nat} (hg : w.heap[g]? = some (.cells cs t z)) : g ≠ b := by
  rintro rfl
  obtain ⟨es, clock, hb, _⟩ := h
  rw [hg] at hb
  cases hb
end Go.Proofs.Yteanndgkjoinmaa.X.Mg

namespace Go.Proofs.Yteanndgkjoinmaa.X.Mg
open Go.RowKit Go.Proofs.YteanndgkjoinmaaW.PrintWords Go.Proofs.YteanndgkjoinmaaW.PrintLast Go.Proofs.YteanndgkjoinmaaW.PrintMore Go.Maps
set_option linter.unusedVariables false
set_option linter.unusedSimpArgs false
def sw (y : S68) : S68 := if (y.f0 = 2 ∨ y.f0 = 3) ∧ y.f2 < y.f1 then ⟨y.f0, y.f2, y.f1⟩ else y
def ansOf (D : DataW Unit) (z : S68) : Int := match D.atKey (kg z) (.lit (.int .i16 0)) with | .lit (.int _ c) => c | _ => 0
def mAns (D : DataW Unit) (z : S68) (lg : List S68) : Int := if Maps.has D (kg z) = true then ansOf D z else IntKind.i16.wrap lg.length
def mLst (D : DataW Unit) (z : S68) (lg : List S68) : List S68 := if Maps.has D (kg z) = true then lg else lg ++ [z]
def mMap (D : DataW Unit) (z : S68) (lg : List S68) : DataW Unit := if Maps.has D (kg z) = true then D else D.put (kg z) (.lit (.int .i16 (IntKind.i16.wrap lg.length)))
abbrev mOwn (W : World) (b n : Nat) (D : DataW Unit) : Prop := W.ownsMap Try.prog 68 (plainElem Try.prog 66) b n D
theorem wf_wrap16 (n : Int) : (Lit.int .i16 (IntKind.i16.wrap n)).wf = true := by
  have e1 : IntKind.i16.min = -32768 := by decide +kernel
  have e2 : IntKind.i16.max = 32767 := by decide +kernel
  have e3 : IntKind.i16.wrap n = if n % 65536 < 32768 then n % 65536 else n % 65536 - 65536 := by
    simp [IntKind.wrap, IntKind.bits, IntKind.signed]; omega
  simp only [Lit.wf, Bool.and_eq_true, decide_eq_true_eq]
  rw [e1, e2, e3]
  split <;> omega
set_option maxHeartbeats 8000000 in
set_option maxRecDepth 100000 in
theorem mk_no_true (gk b gp : Nat) (i : Nat) (a0 : Int) (u1 u2 : Value) (lg : List S68) (y0 y1 y2 : Int) (ok : Nat → Prop) (w0 w : World) (D : DataW Unit) (hB : Below w0.heap.size w0 w) (hgp : w0.heap.size ≤ gp) (hbk : w.heap[gp]? = some (.cells #[.int .i8 a0, u1, u2] 30 (0, 0))) (hr : Kd.R k68 68 w w0.heap.size ok u1 lg) (hfresh : ∀ k, w.heap.size ≤ k → ok k) (hl : lg.length < 23456248059221)
    (hk : w.heap[gk]? = some (.cells #[.map (some b)] 76 (0, 0))) (hbb : w0.heap.size ≤ b) (ho : mOwn w b lg.length D) (hp : ¬ (y0 = 2 ∨ y0 = 3)) (hy : wfg ⟨y0, y1, y2⟩) (hh : Maps.has D (kg ⟨y0, y1, y2⟩) = true) :
    Calls Try.prog 59 #[.pointer (some ⟨gp, 0, none⟩), .int .i64 i, .agg #[.int .i8 y0, .int .i16 y1, .int .i16 y2], .pointer (some ⟨gk, 0, none⟩)] w fun e w' => ∃ u1', e = .returned (.int .i16 (mAns D ⟨y0, y1, y2⟩ lg)) ∧ Kd.R k68 68 w' w0.heap.size ok u1' (mLst D ⟨y0, y1, y2⟩ lg) ∧ w'.heap[gp]? = some (.cells #[.int .i8 a0, u1', u2] 30 (0, 0)) ∧ Below w0.heap.size w0 w' ∧ w.heap.size ≤ w'.heap.size ∧ mOwn w' b (mLst D ⟨y0, y1, y2⟩ lg).length (mMap D ⟨y0, y1, y2⟩ lg) ∧ (∀ i, i < w.heap.size → i ≠ gp → i ≠ b → some i ≠ u1.ownBlock → w'.heap[i]? = w.heap[i]?) := by
  have hu30 := Try.underlying30
  have hu68 := Try.underlying68
  have HB := Aside0.mk hB
  have HG := Aside0.mk hgp
  have BK := Aside0.mk hbk
  have HR := Aside0.mk hr
  have HF := Aside0.mk hfresh
  have HL := Aside0.mk hl
  have HK := Aside0.mk hk
  have HBB := Aside0.mk hbb
  have HO := Aside0.mk ho
  have HKEY := Aside0.mk (key_gate hy)
  have HH := Aside0.mk hh
  have hP : impl_Gate_isPair.f y0 y1 y2 = some false := by
    unfold impl_Gate_isPair.f
    by_cases h2 : y0 = 2
    · simp [h2] at hp ⊢
    · rw [if_neg h2]; by_cases h3 : y0 = 3 <;> simp [h2, h3] at hp ⊢
  have HP := Aside0.mk hP
  clear hB hgp hbk hr hfresh hl hk hbb ho hy hh hP
  clear hp
  go_enter Try.func59, Try.ntmps59
  go_wp2_with (first | ((with_reducible refine gate_dst (N := 6) rfl ?_); refine box_event ?hg (N := 6) ?hd (cs := #[.int .i8 y0, .int .i16 y1, .int .i16 y2]) (t := 68) ?hr ?_; (case hd => rfl); (case hg => rfl); (case hr => first | (go_simp; done) | (go_simp; rfl)); intro gb hg w1 hbox hb; have GN1 := Aside0.mk (show w.heap.size ≤ gb by rw [hg]; exact Nat.le_refl _); have HW1 := Aside0.mk hb; have BB1 := Aside0.mk hbox; clear hb hbox hg; have hg0 : w1.cell? ⟨gb, 0, none⟩ = some (.int .i8 y0) := (blk_cell BB1.out 0).trans rfl; have hg1 : w1.cell? ⟨gb, 1, none⟩ = some (.int .i16 y1) := (blk_cell BB1.out 1).trans rfl; have hg2 : w1.cell? ⟨gb, 2, none⟩ = some (.int .i16 y2) := (blk_cell BB1.out 2).trans rfl) | (go_at_call 49; (with_reducible refine (impl_Gate_isPair.calls y0 y1 y2 false _ HP.out).mono ?_); rintro e w2 ⟨rfl, hb⟩; have HW2 := Aside0.mk (below_step HW1.out hb); have BB2 := Aside0.mk (blk_below BB1.out hb); clear hb; have hi0 : w2.cell? ⟨gb, 0, none⟩ = some (.int .i8 y0) := (blk_cell BB2.out 0).trans rfl; have hi1 : w2.cell? ⟨gb, 1, none⟩ = some (.int .i16 y1) := (blk_cell BB2.out 1).trans rfl; have hi2 : w2.cell? ⟨gb, 2, none⟩ = some (.int .i16 y2) := (blk_cell BB2.out 2).trans rfl; have hf1 := blk_frozen BB2.out 1; have hf2 := blk_frozen BB2.out 2; have hik : w2.cell? ⟨gk, 0, none⟩ = some (.map (some b)) := (blk_cell (blk_below HK.out HW2.out) 0).trans rfl; have NBB := Aside0.mk (show b ≠ gb by have := HO.out.lt; have := GN1.out; omega)) | (at_lookup; refine wpList_lookup_own_ok_int _ rfl _ _ 76 rfl 68 66 .i16 law68 und76 und66 (zero66 _) b lg.length D rfl (own_heap HO.out (HW2.out.block b HO.out.lt)) _ _ rfl HKEY.out ?_; intro c hat hwc; have HAT := Aside0.mk hat; clear hat hwc; rw [HH.out]))
  have HWE := Aside0.mk (show Below w.heap.size w w2 from HW2.out)
  go_ret
  have e1 : mAns D ⟨y0, y1, y2⟩ lg = c := by unfold mAns ansOf; rw [if_pos HH.out, HAT.out]
  have e2 : mLst D ⟨y0, y1, y2⟩ lg = lg := by unfold mLst; rw [if_pos HH.out]
  have e3 : mMap D ⟨y0, y1, y2⟩ lg = D := by unfold mMap; rw [if_pos HH.out]
  rw [e1, e2, e3]
  exact ⟨u1, rfl, Kd.R_below HR.out HWE.out, blk_below BK.out HWE.out, below_up HB.out HB.out.size HWE.out, HWE.out.size, own_heap HO.out (HWE.out.block b HO.out.lt), fun j hj _ _ _ => HWE.out.block j hj⟩
set_option maxHeartbeats 8000000 in
set_option maxRecDepth 100000 in
theorem mk_no_false (gk b gp : Nat) (i : Nat) (a0 : Int) (u1 u2 : Value) (lg : List S68) (y0 y1 y2 : Int) (ok : Nat → Prop) (w0 w : World) (D : DataW Unit) (hB : Below w0.heap.size w0 w) (hgp : w0.heap.size ≤ gp) (hbk : w.heap[gp]? = some (.cells #[.int .i8 a0, u1, u2] 30 (0, 0))) (hr : Kd.R k68 68 w w0.heap.size ok u1 lg) (hfresh : ∀ k, w.heap.size ≤ k → ok k) (hl : lg.length < 23456248059221)
    (hk : w.heap[gk]? = some (.cells #[.map (some b)] 76 (0, 0))) (hbb : w0.heap.size ≤ b) (ho : mOwn w b lg.length D) (hp : ¬ (y0 = 2 ∨ y0 = 3)) (hy : wfg ⟨y0, y1, y2⟩) (hh : Maps.has D (kg ⟨y0, y1, y2⟩) = false) :
    Calls Try.prog 59 #[.pointer (some ⟨gp, 0, none⟩), .int .i64 i, .agg #[.int .i8 y0, .int .i16 y1, .int .i16 y2], .pointer (some ⟨gk, 0, none⟩)] w fun e w' => ∃ u1', e = .returned (.int .i16 (mAns D ⟨y0, y1, y2⟩ lg)) ∧ Kd.R k68 68 w' w0.heap.size ok u1' (mLst D ⟨y0, y1, y2⟩ lg) ∧ w'.heap[gp]? = some (.cells #[.int .i8 a0, u1', u2] 30 (0, 0)) ∧ Below w0.heap.size w0 w' ∧ w.heap.size ≤ w'.heap.size ∧ mOwn w' b (mLst D ⟨y0, y1, y2⟩ lg).length (mMap D ⟨y0, y1, y2⟩ lg) ∧ (∀ i, i < w.heap.size → i ≠ gp → i ≠ b → some i ≠ u1.ownBlock → w'.heap[i]? = w.heap[i]?) := by
  have hu30 := Try.underlying30
  have hu68 := Try.underlying68
  have HB := Aside0.mk hB
  have HG := Aside0.mk hgp
  have BK := Aside0.mk hbk
  have HR := Aside0.mk hr
  have HF := Aside0.mk hfresh
  have HL := Aside0.mk hl
  have HK := Aside0.mk hk
  have HBB := Aside0.mk hbb
  have HO := Aside0.mk ho
  have HKEY := Aside0.mk (key_gate hy)
  have HH := Aside0.mk hh
  have hP : impl_Gate_isPair.f y0 y1 y2 = some false := by
    unfold impl_Gate_isPair.f
    by_cases h2 : y0 = 2
    · simp [h2] at hp ⊢
    · rw [if_neg h2]; by_cases h3 : y0 = 3 <;> simp [h2, h3] at hp ⊢
  have HP := Aside0.mk hP
  clear hB hgp hbk hr hfresh hl hk hbb ho hy hh hP
  clear hp
  go_enter Try.func59, Try.ntmps59
  go_wp2_with (first | ((with_reducible refine gate_dst (N := 6) rfl ?_); refine box_event ?hg (N := 6) ?hd (cs := #[.int .i8 y0, .int .i16 y1, .int .i16 y2]) (t := 68) ?hr ?_; (case hd => rfl); (case hg => rfl); (case hr => first | (go_simp; done) | (go_simp; rfl)); intro gb hg w1 hbox hb; have GN1 := Aside0.mk (show w.heap.size ≤ gb by rw [hg]; exact Nat.le_refl _); have HW1 := Aside0.mk hb; have BB1 := Aside0.mk hbox; clear hb hbox hg; have hg0 : w1.cell? ⟨gb, 0, none⟩ = some (.int .i8 y0) := (blk_cell BB1.out 0).trans rfl; have hg1 : w1.cell? ⟨gb, 1, none⟩ = some (.int .i16 y1) := (blk_cell BB1.out 1).trans rfl; have hg2 : w1.cell? ⟨gb, 2, none⟩ = some (.int .i16 y2) := (blk_cell BB1.out 2).trans rfl) | (go_at_call 49; (with_reducible refine (impl_Gate_isPair.calls y0 y1 y2 false _ HP.out).mono ?_); rintro e w2 ⟨rfl, hb⟩; have HW2 := Aside0.mk (below_step HW1.out hb); have BB2 := Aside0.mk (blk_below BB1.out hb); clear hb; have hi0 : w2.cell? ⟨gb, 0, none⟩ = some (.int .i8 y0) := (blk_cell BB2.out 0).trans rfl; have hi1 : w2.cell? ⟨gb, 1, none⟩ = some (.int .i16 y1) := (blk_cell BB2.out 1).trans rfl; have hi2 : w2.cell? ⟨gb, 2, none⟩ = some (.int .i16 y2) := (blk_cell BB2.out 2).trans rfl; have hf1 := blk_frozen BB2.out 1; have hf2 := blk_frozen BB2.out 2; have hik : w2.cell? ⟨gk, 0, none⟩ = some (.map (some b)) := (blk_cell (blk_below HK.out HW2.out) 0).trans rfl; have NBB := Aside0.mk (show b ≠ gb by have := HO.out.lt; have := GN1.out; omega)) | (at_lookup; refine wpList_lookup_own_ok_int _ rfl _ _ 76 rfl 68 66 .i16 law68 und76 und66 (zero66 _) b lg.length D rfl (own_heap HO.out (HW2.out.block b HO.out.lt)) _ _ rfl HKEY.out ?_; intro c hat hwc; have HAT := Aside0.mk hat; clear hat hwc; rw [HH.out]))
  have HWE := Aside0.mk (show Below w.heap.size w w2 from HW2.out)
  have BBE := Aside0.mk (show (w2).heap[gb]? = some (.cells #[.int .i8 y0, .int .i16 y1, .int .i16 y2] 68 (0, 0)) from BB2.out)
  have BKE := Aside0.mk (blk_below BK.out HWE.out)
  have HKE := Aside0.mk (blk_below HK.out HWE.out)
  have HRE := Aside0.mk (Kd.R_below HR.out HWE.out)
  have HOE := Aside0.mk (own_heap HO.out (HWE.out.block b HO.out.lt))
  have HBE := Aside0.mk (below_up HB.out HB.out.size HWE.out)
  have NBP := Aside0.mk (show gb ≠ gp by have := blk_lt BK.out; have := GN1.out; omega)
  have NBO := Aside0.mk (show some gb ≠ u1.ownBlock from fun he => by have := Kd.R_lt HR.out gb he.symm; have := GN1.out; omega)
  clear HW2 BB2 hi0 hi1 hi2 hf1 hf2 hik HW1 BB1 hg0 hg1 hg2 HAT
  generalize w2 = wE at HWE BBE BKE HKE HRE HOE HBE ⊢
  refine start_ (n := 6) (S := fun w' => w'.cell? ⟨gk, 0, none⟩ = some (.map (some b)) ∧ w'.cell? ⟨gb, 0, none⟩ = some (Value.int .i8 y0) ∧ w'.cell? ⟨gb, 1, none⟩ = some (Value.int .i16 y1) ∧ w'.cell? ⟨gb, 2, none⟩ = some (Value.int .i16 y2)) (ds := [5]) #[false, false, false, false, false, false] (by kernel_rfl) rfl rfl ⟨(blk_cell HKE.out 0).trans rfl, (blk_cell BBE.out 0).trans rfl, (blk_cell BBE.out 1).trans rfl, (blk_cell BBE.out 2).trans rfl⟩ (fun hHeld => ?_)
  have HWd := Aside0.mk (below_drew1 HWE.out)
  have BBd := Aside0.mk (blk_drew BBE.out)
  have BKd := Aside0.mk (blk_drew BKE.out)
  have HKd := Aside0.mk (blk_drew HKE.out)
  have HRd := Aside0.mk (Kd.R_drew HRE.out)
  have HOd := Aside0.mk HOE.out.drew
  have HBd := Aside0.mk (below_drew1 HBE.out)
  clear HWE BBE BKE HKE HRE HOE HBE
  generalize wE.drew = wd at HWd BBd BKd HKd HRd HOd HBd hHeld ⊢
  refine pure_ (i := 2) (N := some 35) (v := ?_) (a' := ?_) #[false, false, true, false, false, false] rfl rfl (by kernel_rfl) (fun _ _ _ h => h) (Or.inl ⟨by rfl, ?_⟩) ?_ ?_
  rotate_left
  · intro w'
    go_simp
    with_reducible rfl
  rotate_left
  · simp only [Act.put, List.setIfInBounds_toArray, List.set_cons_zero, List.set_cons_succ, i64_w, i32_w]
    rfl
  refine take_ (i := 0) (N := some 33) (v := ?_) (a' := ?_) #[true, false, true, false, false, false] rfl rfl (by kernel_rfl) (fun _ _ _ h => h) (Or.inl ⟨by rfl, ?_⟩) hHeld ?_ ?_
  rotate_left
  · rintro w' ⟨s0, s1, s2, s3⟩
    go_simp
    with_reducible rfl
  rotate_left
  · simp only [Act.put, List.setIfInBounds_toArray, List.set_cons_zero, List.set_cons_succ, i64_w, i32_w]
    rfl
  refine take_ (i := 1) (N := some 34) (v := ?_) (a' := ?_) #[true, true, true, false, false, false] rfl rfl (by kernel_rfl) (fun _ _ _ h => h) (Or.inl ⟨by rfl, ?_⟩) hHeld ?_ ?_
  rotate_left
  · rintro w' ⟨s0, s1, s2, s3⟩
    go_simp
    with_reducible rfl
  rotate_left
  · simp only [Act.put, List.setIfInBounds_toArray, List.set_cons_zero, List.set_cons_succ, i64_w, i32_w]
    rfl
  refine take_ (i := 3) (N := some 36) (v := ?_) (a' := ?_) #[true, true, true, true, false, false] rfl rfl (by kernel_rfl) (fun _ _ _ h => h) (Or.inl ⟨by rfl, ?_⟩) hHeld ?_ ?_
  rotate_left
  · rintro w' ⟨s0, s1, s2, s3⟩
    go_simp
    with_reducible rfl
  rotate_left
  · simp only [Act.put, List.setIfInBounds_toArray, List.set_cons_zero, List.set_cons_succ, i64_w, i32_w]
    rfl
  refine one_ (i := 4) (N := some 37) #[true, true, true, true, true, false] rfl rfl (by kernel_rfl) (by decide) (fun K hK => ?_)
  refine goes_ Try.func60 (by kernel_rfl) rfl #[.pointer (some ⟨gp, 0, none⟩), .agg #[.int .i8 y0, .int .i16 y1, .int .i16 y2]] (by rfl) rfl rfl (by simp only [List.map_toArray, List.map_cons, List.map_nil]; rfl) ?_
  with_reducible refine (add_calls gp a0 u1 u2 lg y0 y1 y2 ok w0 _ HBd.out HG.out BKd.out HRd.out (fun k hk => HF.out k (Nat.le_trans HWd.out.size hk)) HL.out).mono ?_
  rintro e w3 ⟨u1', rfl, h1, h2, h3, h4, h5, h6⟩
  refine ⟨_, rfl, ?_⟩
  have H1 := Aside0.mk h1
  have H2 := Aside0.mk h2
  have H3 := Aside0.mk h3
  have H4 := Aside0.mk h4
  have H5 := Aside0.mk h5
  have NKP := blk_ne HKd.out BKd.out (by decide)
  have NKO : some gk ≠ u1.ownBlock := fun he => by obtain ⟨cells', hc'⟩ := Kd.R_typed HRd.out gk he.symm; rw [HKd.out] at hc'; cases hc'
  have NOP : b ≠ gp := (own_not_cells HOd.out BKd.out).symm
  have NOO : some b ≠ u1.ownBlock := fun he => by obtain ⟨cells', hc'⟩ := Kd.R_typed HRd.out b he.symm; exact own_not_cells HOd.out hc' rfl
  have HK3 := Aside0.mk ((h5 gk (blk_lt HKd.out) NKP NKO).trans HKd.out)
  have BB3 := Aside0.mk ((h5 gb (blk_lt BBd.out) NBP.out NBO.out).trans BBd.out)
  have HO3 := Aside0.mk (own_heap HOd.out (h5 b HOd.out.lt NOP NOO))
  have NOP' := Aside0.mk NOP
  clear h1 h2 h3 h4 h5 h6 NKP NKO NOP NOO hHeld
  refine hK.out _ _ ⟨(blk_cell HK3.out 0).trans rfl, (blk_cell BB3.out 0).trans rfl, (blk_cell BB3.out 1).trans rfl, (blk_cell BB3.out 2).trans rfl⟩ (fun hHeld => ?_)
  clear hK K
  refine norm_ (a' := ?_) ?_ ?_
  rotate_left
  · show Act.put _ (some 37) _ = _
    simp only [Act.put, List.setIfInBounds_toArray, List.set_cons_zero, List.set_cons_succ, i64_w, i32_w]
    rfl
  refine last_ (i := 5) (N := none) #[true, true, true, true, true, true] rfl rfl (by kernel_rfl) (by decide) (fun K hK => ?_)
  obtain ⟨w5, hrun, ho5, hg5⟩ := HO3.out.update law68 und76 (by have := HL.out; unfold maxLen; omega) HKEY.out (plainElem_int (H := Unit) und66 (wf_wrap16 lg.length))
  have HO5 := Aside0.mk ho5
  have HG5 := Aside0.mk hg5
  have HRUN := Aside0.mk hrun
  clear ho5 hg5 hrun
  refine skip_ (w1 := w5) (by rfl) rfl ?_ ?_
  · simp [execOp, Act.eval, HRUN.out, Result.andThen]
  have HK5 := Aside0.mk (blk_grown HK3.out HG5.out (fun he => own_not_cells HO3.out HK3.out (Option.some.inj he)))
  have BB5 := Aside0.mk (blk_grown BB3.out HG5.out (fun he => own_not_cells HO3.out BB3.out (Option.some.inj he)))
  have hk5 : w5.cell? ⟨gk, 0, none⟩ = some (.map (some b)) := (blk_cell HK5.out 0).trans rfl
  have hb5_0 : w5.cell? ⟨gb, 0, none⟩ = some (Value.int .i8 y0) := (blk_cell BB5.out 0).trans rfl
  have hb5_1 : w5.cell? ⟨gb, 1, none⟩ = some (Value.int .i16 y1) := (blk_cell BB5.out 1).trans rfl
  have hb5_2 : w5.cell? ⟨gb, 2, none⟩ = some (Value.int .i16 y2) := (blk_cell BB5.out 2).trans rfl
  refine hK.out _ _ ?_
  clear hK K
  refine done_ (by kernel_rfl) ?_

  go_wp2_with (at_lookup; refine wpList_lookup_own_int _ rfl _ _ 76 rfl 68 66 .i16 law68 und76 und66 (zero66 _) b (lg.length + 1) _ rfl HO5.out _ _ rfl HKEY.out ?_; intro c hat hwc; have HAT := Aside0.mk hat; clear hat hwc)
  go_ret
  have ec : c = IntKind.i16.wrap lg.length := by have h := HAT.out; rw [atKey_put_same HO3.out.isMap (kg_lit _)] at h; simpa using h.symm
  have e1 : mAns D ⟨y0, y1, y2⟩ lg = c := by unfold mAns; rw [if_neg (by rw [HH.out]; simp), ec]
  have e2 : mLst D ⟨y0, y1, y2⟩ lg = lg ++ [⟨y0, y1, y2⟩] := by unfold mLst; rw [if_neg (by rw [HH.out]; simp)]
  have e3 : mMap D ⟨y0, y1, y2⟩ lg = D.put (kg ⟨y0, y1, y2⟩) (.lit (.int .i16 (IntKind.i16.wrap lg.length))) := by unfold mMap; rw [if_neg (by rw [HH.out]; simp)]
  rw [e1, e2, e3]
  refine ⟨u1', rfl, ?_, blk_grown H2.out HG5.out (fun he => NOP'.out (Option.some.inj he).symm), H3.out.grown HG5.out (Nat.le_trans HBd.out.size H4.out) (fun j hj => by cases hj; exact HBB.out), Nat.le_trans (Nat.le_trans HWd.out.size H4.out) HG5.out.size, by simpa using HO5.out, fun j hj h1 h2 h3 => ?_⟩
  · refine Kd.R_mono (Kd.R_move (Kd.R_bound H1.out) (fun k hk2 => ?_)) (fun _ hk => hk.1)
    obtain ⟨_, q1, q2, t, ht, cells, hc⟩ := hk2
    exact HG5.out.block k q2 (fun he => own_not_cells HO3.out hc (Option.some.inj he))
  · exact (HG5.out.block j (Nat.lt_of_lt_of_le hj (Nat.le_trans HWd.out.size H4.out)) (fun he => h2 (Option.some.inj he))).trans ((H5.out j (Nat.lt_of_lt_of_le hj HWd.out.size) h1 h3).trans (HWd.out.block j hj))
set_option maxHeartbeats 8000000 in
set_option maxRecDepth 100000 in
theorem mk_ord_true (gk b gp : Nat) (i : Nat) (a0 : Int) (u1 u2 : Value) (lg : List S68) (y0 y1 y2 : Int) (ok : Nat → Prop) (w0 w : World) (D : DataW Unit) (hB : Below w0.heap.size w0 w) (hgp : w0.heap.size ≤ gp) (hbk : w.heap[gp]? = some (.cells #[.int .i8 a0, u1, u2] 30 (0, 0))) (hr : Kd.R k68 68 w w0.heap.size ok u1 lg) (hfresh : ∀ k, w.heap.size ≤ k → ok k) (hl : lg.length < 23456248059221)
    (hk : w.heap[gk]? = some (.cells #[.map (some b)] 76 (0, 0))) (hbb : w0.heap.size ≤ b) (ho : mOwn w b lg.length D) (hp : y0 = 2 ∨ y0 = 3) (hq : ¬ y2 < y1) (hy : wfg ⟨y0, y1, y2⟩) (hh : Maps.has D (kg ⟨y0, y1, y2⟩) = true) :
    Calls Try.prog 59 #[.pointer (some ⟨gp, 0, none⟩), .int .i64 i, .agg #[.int .i8 y0, .int .i16 y1, .int .i16 y2], .pointer (some ⟨gk, 0, none⟩)] w fun e w' => ∃ u1', e = .returned (.int .i16 (mAns D ⟨y0, y1, y2⟩ lg)) ∧ Kd.R k68 68 w' w0.heap.size ok u1' (mLst D ⟨y0, y1, y2⟩ lg) ∧ w'.heap[gp]? = some (.cells #[.int .i8 a0, u1', u2] 30 (0, 0)) ∧ Below w0.heap.size w0 w' ∧ w.heap.size ≤ w'.heap.size ∧ mOwn w' b (mLst D ⟨y0, y1, y2⟩ lg).length (mMap D ⟨y0, y1, y2⟩ lg) ∧ (∀ i, i < w.heap.size → i ≠ gp → i ≠ b → some i ≠ u1.ownBlock → w'.heap[i]? = w.heap[i]?) := by
  have hu30 := Try.underlying30
  have hu68 := Try.underlying68
  have HB := Aside0.mk hB
  have HG := Aside0.mk hgp
  have BK := Aside0.mk hbk
  have HR := Aside0.mk hr
  have HF := Aside0.mk hfresh
  have HL := Aside0.mk hl
  have HK := Aside0.mk hk
  have HBB := Aside0.mk hbb
  have HO := Aside0.mk ho
  have HKEY := Aside0.mk (key_gate hy)
  have HH := Aside0.mk hh
  have hP : impl_Gate_isPair.f y0 y1 y2 = some true := by
    unfold impl_Gate_isPair.f
    by_cases h2 : y0 = 2
    · simp [h2] at hp ⊢
    · rw [if_neg h2]; by_cases h3 : y0 = 3 <;> simp [h2, h3] at hp ⊢
  have HP := Aside0.mk hP
  clear hB hgp hbk hr hfresh hl hk hbb ho hy hh hP
  have q1 : (y1 > y2) = False := eq_false hq
  clear hp hq
  go_enter Try.func59, Try.ntmps59
  go_wp2_with (first | ((with_reducible refine gate_dst (N := 6) rfl ?_); refine box_event ?hg (N := 6) ?hd (cs := #[.int .i8 y0, .int .i16 y1, .int .i16 y2]) (t := 68) ?hr ?_; (case hd => rfl); (case hg => rfl); (case hr => first | (go_simp; done) | (go_simp; rfl)); intro gb hg w1 hbox hb; have GN1 := Aside0.mk (show w.heap.size ≤ gb by rw [hg]; exact Nat.le_refl _); have HW1 := Aside0.mk hb; have BB1 := Aside0.mk hbox; clear hb hbox hg; have hg0 : w1.cell? ⟨gb, 0, none⟩ = some (.int .i8 y0) := (blk_cell BB1.out 0).trans rfl; have hg1 : w1.cell? ⟨gb, 1, none⟩ = some (.int .i16 y1) := (blk_cell BB1.out 1).trans rfl; have hg2 : w1.cell? ⟨gb, 2, none⟩ = some (.int .i16 y2) := (blk_cell BB1.out 2).trans rfl) | (go_at_call 49; (with_reducible refine (impl_Gate_isPair.calls y0 y1 y2 true _ HP.out).mono ?_); rintro e w2 ⟨rfl, hb⟩; have HW2 := Aside0.mk (below_step HW1.out hb); have BB2 := Aside0.mk (blk_below BB1.out hb); clear hb; have hi0 : w2.cell? ⟨gb, 0, none⟩ = some (.int .i8 y0) := (blk_cell BB2.out 0).trans rfl; have hi1 : w2.cell? ⟨gb, 1, none⟩ = some (.int .i16 y1) := (blk_cell BB2.out 1).trans rfl; have hi2 : w2.cell? ⟨gb, 2, none⟩ = some (.int .i16 y2) := (blk_cell BB2.out 2).trans rfl; have hf1 := blk_frozen BB2.out 1; have hf2 := blk_frozen BB2.out 2; have hik : w2.cell? ⟨gk, 0, none⟩ = some (.map (some b)) := (blk_cell (blk_below HK.out HW2.out) 0).trans rfl; have NBB := Aside0.mk (show b ≠ gb by have := HO.out.lt; have := GN1.out; omega)) | (at_lookup; refine wpList_lookup_own_ok_int _ rfl _ _ 76 rfl 68 66 .i16 law68 und76 und66 (zero66 _) b lg.length D rfl (own_heap HO.out (HW2.out.block b HO.out.lt)) _ _ rfl HKEY.out ?_; intro c hat hwc; have HAT := Aside0.mk hat; clear hat hwc; rw [HH.out]))
  have HWE := Aside0.mk (show Below w.heap.size w w2 from HW2.out)
  go_ret
  have e1 : mAns D ⟨y0, y1, y2⟩ lg = c := by unfold mAns ansOf; rw [if_pos HH.out, HAT.out]
  have e2 : mLst D ⟨y0, y1, y2⟩ lg = lg := by unfold mLst; rw [if_pos HH.out]
  have e3 : mMap D ⟨y0, y1, y2⟩ lg = D := by unfold mMap; rw [if_pos HH.out]
  rw [e1, e2, e3]
  exact ⟨u1, rfl, Kd.R_below HR.out HWE.out, blk_below BK.out HWE.out, below_up HB.out HB.out.size HWE.out, HWE.out.size, own_heap HO.out (HWE.out.block b HO.out.lt), fun j hj _ _ _ => HWE.out.block j hj⟩
set_option maxHeartbeats 8000000 in
set_option maxRecDepth 100000 in
theorem mk_ord_false (gk b gp : Nat) (i : Nat) (a0 : Int) (u1 u2 : Value) (lg : List S68) (y0 y1 y2 : Int) (ok : Nat → Prop) (w0 w : World) (D : DataW Unit) (hB : Below w0.heap.size w0 w) (hgp : w0.heap.size ≤ gp) (hbk : w.heap[gp]? = some (.cells #[.int .i8 a0, u1, u2] 30 (0, 0))) (hr : Kd.R k68 68 w w0.heap.size ok u1 lg) (hfresh : ∀ k, w.heap.size ≤ k → ok k) (hl : lg.length < 23456248059221)
    (hk : w.heap[gk]? = some (.cells #[.map (some b)] 76 (0, 0))) (hbb : w0.heap.size ≤ b) (ho : mOwn w b lg.length D) (hp : y0 = 2 ∨ y0 = 3) (hq : ¬ y2 < y1) (hy : wfg ⟨y0, y1, y2⟩) (hh : Maps.has D (kg ⟨y0, y1, y2⟩) = false) :
    Calls Try.prog 59 #[.pointer (some ⟨gp, 0, none⟩), .int .i64 i, .agg #[.int .i8 y0, .int .i16 y1, .int .i16 y2], .pointer (some ⟨gk, 0, none⟩)] w fun e w' => ∃ u1', e = .returned (.int .i16 (mAns D ⟨y0, y1, y2⟩ lg)) ∧ Kd.R k68 68 w' w0.heap.size ok u1' (mLst D ⟨y0, y1, y2⟩ lg) ∧ w'.heap[gp]? = some (.cells #[.int .i8 a0, u1', u2] 30 (0, 0)) ∧ Below w0.heap.size w0 w' ∧ w.heap.size ≤ w'.heap.size ∧ mOwn w' b (mLst D ⟨y0, y1, y2⟩ lg).length (mMap D ⟨y0, y1, y2⟩ lg) ∧ (∀ i, i < w.heap.size → i ≠ gp → i ≠ b → some i ≠ u1.ownBlock → w'.heap[i]? = w.heap[i]?) := by
  have hu30 := Try.underlying30
  have hu68 := Try.underlying68
  have HB := Aside0.mk hB
  have HG := Aside0.mk hgp
  have BK := Aside0.mk hbk
  have HR := Aside0.mk hr
  have HF := Aside0.mk hfresh
  have HL := Aside0.mk hl
  have HK := Aside0.mk hk
  have HBB := Aside0.mk hbb
  have HO := Aside0.mk ho
  have HKEY := Aside0.mk (key_gate hy)
  have HH := Aside0.mk hh
  have hP : impl_Gate_isPair.f y0 y1 y2 = some true := by
    unfold impl_Gate_isPair.f
    by_cases h2 : y0 = 2
    · simp [h2] at hp ⊢
    · rw [if_neg h2]; by_cases h3 : y0 = 3 <;> simp [h2, h3] at hp ⊢
  have HP := Aside0.mk hP
  clear hB hgp hbk hr hfresh hl hk hbb ho hy hh hP
  have q1 : (y1 > y2) = False := eq_false hq
  clear hp hq
  go_enter Try.func59, Try.ntmps59
  go_wp2_with (first | ((with_reducible refine gate_dst (N := 6) rfl ?_); refine box_event ?hg (N := 6) ?hd (cs := #[.int .i8 y0, .int .i16 y1, .int .i16 y2]) (t := 68) ?hr ?_; (case hd => rfl); (case hg => rfl); (case hr => first | (go_simp; done) | (go_simp; rfl)); intro gb hg w1 hbox hb; have GN1 := Aside0.mk (show w.heap.size ≤ gb by rw [hg]; exact Nat.le_refl _); have HW1 := Aside0.mk hb; have BB1 := Aside0.mk hbox; clear hb hbox hg; have hg0 : w1.cell? ⟨gb, 0, none⟩ = some (.int .i8 y0) := (blk_cell BB1.out 0).trans rfl; have hg1 : w1.cell? ⟨gb, 1, none⟩ = some (.int .i16 y1) := (blk_cell BB1.out 1).trans rfl; have hg2 : w1.cell? ⟨gb, 2, none⟩ = some (.int .i16 y2) := (blk_cell BB1.out 2).trans rfl) | (go_at_call 49; (with_reducible refine (impl_Gate_isPair.calls y0 y1 y2 true _ HP.out).mono ?_); rintro e w2 ⟨rfl, hb⟩; have HW2 := Aside0.mk (below_step HW1.out hb); have BB2 := Aside0.mk (blk_below BB1.out hb); clear hb; have hi0 : w2.cell? ⟨gb, 0, none⟩ = some (.int .i8 y0) := (blk_cell BB2.out 0).trans rfl; have hi1 : w2.cell? ⟨gb, 1, none⟩ = some (.int .i16 y1) := (blk_cell BB2.out 1).trans rfl; have hi2 : w2.cell? ⟨gb, 2, none⟩ = some (.int .i16 y2) := (blk_cell BB2.out 2).trans rfl; have hf1 := blk_frozen BB2.out 1; have hf2 := blk_frozen BB2.out 2; have hik : w2.cell? ⟨gk, 0, none⟩ = some (.map (some b)) := (blk_cell (blk_below HK.out HW2.out) 0).trans rfl; have NBB := Aside0.mk (show b ≠ gb by have := HO.out.lt; have := GN1.out; omega)) | (at_lookup; refine wpList_lookup_own_ok_int _ rfl _ _ 76 rfl 68 66 .i16 law68 und76 und66 (zero66 _) b lg.length D rfl (own_heap HO.out (HW2.out.block b HO.out.lt)) _ _ rfl HKEY.out ?_; intro c hat hwc; have HAT := Aside0.mk hat; clear hat hwc; rw [HH.out]))
  have HWE := Aside0.mk (show Below w.heap.size w w2 from HW2.out)
  have BBE := Aside0.mk (show (w2).heap[gb]? = some (.cells #[.int .i8 y0, .int .i16 y1, .int .i16 y2] 68 (0, 0)) from BB2.out)
  have BKE := Aside0.mk (blk_below BK.out HWE.out)
  have HKE := Aside0.mk (blk_below HK.out HWE.out)
  have HRE := Aside0.mk (Kd.R_below HR.out HWE.out)
  have HOE := Aside0.mk (own_heap HO.out (HWE.out.block b HO.out.lt))
  have HBE := Aside0.mk (below_up HB.out HB.out.size HWE.out)
  have NBP := Aside0.mk (show gb ≠ gp by have := blk_lt BK.out; have := GN1.out; omega)
  have NBO := Aside0.mk (show some gb ≠ u1.ownBlock from fun he => by have := Kd.R_lt HR.out gb he.symm; have := GN1.out; omega)
  clear HW2 BB2 hi0 hi1 hi2 hf1 hf2 hik HW1 BB1 hg0 hg1 hg2 HAT
  generalize w2 = wE at HWE BBE BKE HKE HRE HOE HBE ⊢
  refine start_ (n := 6) (S := fun w' => w'.cell? ⟨gk, 0, none⟩ = some (.map (some b)) ∧ w'.cell? ⟨gb, 0, none⟩ = some (Value.int .i8 y0) ∧ w'.cell? ⟨gb, 1, none⟩ = some (Value.int .i16 y1) ∧ w'.cell? ⟨gb, 2, none⟩ = some (Value.int .i16 y2)) (ds := [5]) #[false, false, false, false, false, false] (by kernel_rfl) rfl rfl ⟨(blk_cell HKE.out 0).trans rfl, (blk_cell BBE.out 0).trans rfl, (blk_cell BBE.out 1).trans rfl, (blk_cell BBE.out 2).trans rfl⟩ (fun hHeld => ?_)
  have HWd := Aside0.mk (below_drew1 HWE.out)
  have BBd := Aside0.mk (blk_drew BBE.out)
  have BKd := Aside0.mk (blk_drew BKE.out)
  have HKd := Aside0.mk (blk_drew HKE.out)
  have HRd := Aside0.mk (Kd.R_drew HRE.out)
  have HOd := Aside0.mk HOE.out.drew
  have HBd := Aside0.mk (below_drew1 HBE.out)
  clear HWE BBE BKE HKE HRE HOE HBE
  generalize wE.drew = wd at HWd BBd BKd HKd HRd HOd HBd hHeld ⊢
  refine pure_ (i := 2) (N := some 35) (v := ?_) (a' := ?_) #[false, false, true, false, false, false] rfl rfl (by kernel_rfl) (fun _ _ _ h => h) (Or.inl ⟨by rfl, ?_⟩) ?_ ?_
  rotate_left
  · intro w'
    go_simp
    with_reducible rfl
  rotate_left
  · simp only [Act.put, List.setIfInBounds_toArray, List.set_cons_zero, List.set_cons_succ, i64_w, i32_w]
    rfl
  refine take_ (i := 0) (N := some 33) (v := ?_) (a' := ?_) #[true, false, true, false, false, false] rfl rfl (by kernel_rfl) (fun _ _ _ h => h) (Or.inl ⟨by rfl, ?_⟩) hHeld ?_ ?_
  rotate_left
  · rintro w' ⟨s0, s1, s2, s3⟩
    go_simp
    with_reducible rfl
  rotate_left
  · simp only [Act.put, List.setIfInBounds_toArray, List.set_cons_zero, List.set_cons_succ, i64_w, i32_w]
    rfl
  refine take_ (i := 1) (N := some 34) (v := ?_) (a' := ?_) #[true, true, true, false, false, false] rfl rfl (by kernel_rfl) (fun _ _ _ h => h) (Or.inl ⟨by rfl, ?_⟩) hHeld ?_ ?_
  rotate_left
  · rintro w' ⟨s0, s1, s2, s3⟩
    go_simp
    with_reducible rfl
  rotate_left
  · simp only [Act.put, List.setIfInBounds_toArray, List.set_cons_zero, List.set_cons_succ, i64_w, i32_w]
    rfl
  refine take_ (i := 3) (N := some 36) (v := ?_) (a' := ?_) #[true, true, true, true, false, false] rfl rfl (by kernel_rfl) (fun _ _ _ h => h) (Or.inl ⟨by rfl, ?_⟩) hHeld ?_ ?_
  rotate_left
  · rintro w' ⟨s0, s1, s2, s3⟩
    go_simp
    with_reducible rfl
  rotate_left
  · simp only [Act.put, List.setIfInBounds_toArray, List.set_cons_zero, List.set_cons_succ, i64_w, i32_w]
    rfl
  refine one_ (i := 4) (N := some 37) #[true, true, true, true, true, false] rfl rfl (by kernel_rfl) (by decide) (fun K hK => ?_)
  refine goes_ Try.func60 (by kernel_rfl) rfl #[.pointer (some ⟨gp, 0, none⟩), .agg #[.int .i8 y0, .int .i16 y1, .int .i16 y2]] (by rfl) rfl rfl (by simp only [List.map_toArray, List.map_cons, List.map_nil]; rfl) ?_
  with_reducible refine (add_calls gp a0 u1 u2 lg y0 y1 y2 ok w0 _ HBd.out HG.out BKd.out HRd.out (fun k hk => HF.out k (Nat.le_trans HWd.out.size hk)) HL.out).mono ?_
  rintro e w3 ⟨u1', rfl, h1, h2, h3, h4, h5, h6⟩
  refine ⟨_, rfl, ?_⟩
  have H1 := Aside0.mk h1
  have H2 := Aside0.mk h2
  have H3 := Aside0.mk h3
  have H4 := Aside0.mk h4
  have H5 := Aside0.mk h5
  have NKP := blk_ne HKd.out BKd.out (by decide)
  have NKO : some gk ≠ u1.ownBlock := fun he => by obtain ⟨cells', hc'⟩ := Kd.R_typed HRd.out gk he.symm; rw [HKd.out] at hc'; cases hc'
  have NOP : b ≠ gp := (own_not_cells HOd.out BKd.out).symm
  have NOO : some b ≠ u1.ownBlock := fun he => by obtain ⟨cells', hc'⟩ := Kd.R_typed HRd.out b he.symm; exact own_not_cells HOd.out hc' rfl
  have HK3 := Aside0.mk ((h5 gk (blk_lt HKd.out) NKP NKO).trans HKd.out)
  have BB3 := Aside0.mk ((h5 gb (blk_lt BBd.out) NBP.out NBO.out).trans BBd.out)
  have HO3 := Aside0.mk (own_heap HOd.out (h5 b HOd.out.lt NOP NOO))
  have NOP' := Aside0.mk NOP
  clear h1 h2 h3 h4 h5 h6 NKP NKO NOP NOO hHeld
  refine hK.out _ _ ⟨(blk_cell HK3.out 0).trans rfl, (blk_cell BB3.out 0).trans rfl, (blk_cell BB3.out 1).trans rfl, (blk_cell BB3.out 2).trans rfl⟩ (fun hHeld => ?_)
  clear hK K
  refine norm_ (a' := ?_) ?_ ?_
  rotate_left
  · show Act.put _ (some 37) _ = _
    simp only [Act.put, List.setIfInBounds_toArray, List.set_cons_zero, List.set_cons_succ, i64_w, i32_w]
    rfl
  refine last_ (i := 5) (N := none) #[true, true, true, true, true, true] rfl rfl (by kernel_rfl) (by decide) (fun K hK => ?_)
  obtain ⟨w5, hrun, ho5, hg5⟩ := HO3.out.update law68 und76 (by have := HL.out; unfold maxLen; omega) HKEY.out (plainElem_int (H := Unit) und66 (wf_wrap16 lg.length))
  have HO5 := Aside0.mk ho5
  have HG5 := Aside0.mk hg5
  have HRUN := Aside0.mk hrun
  clear ho5 hg5 hrun
  refine skip_ (w1 := w5) (by rfl) rfl ?_ ?_
  · simp [execOp, Act.eval, HRUN.out, Result.andThen]
  have HK5 := Aside0.mk (blk_grown HK3.out HG5.out (fun he => own_not_cells HO3.out HK3.out (Option.some.inj he)))
  have BB5 := Aside0.mk (blk_grown BB3.out HG5.out (fun he => own_not_cells HO3.out BB3.out (Option.some.inj he)))
  have hk5 : w5.cell? ⟨gk, 0, none⟩ = some (.map (some b)) := (blk_cell HK5.out 0).trans rfl
  have hb5_0 : w5.cell? ⟨gb, 0, none⟩ = some (Value.int .i8 y0) := (blk_cell BB5.out 0).trans rfl
  have hb5_1 : w5.cell? ⟨gb, 1, none⟩ = some (Value.int .i16 y1) := (blk_cell BB5.out 1).trans rfl
  have hb5_2 : w5.cell? ⟨gb, 2, none⟩ = some (Value.int .i16 y2) := (blk_cell BB5.out 2).trans rfl
  refine hK.out _ _ ?_
  clear hK K
  refine done_ (by kernel_rfl) ?_

  go_wp2_with (at_lookup; refine wpList_lookup_own_int _ rfl _ _ 76 rfl 68 66 .i16 law68 und76 und66 (zero66 _) b (lg.length + 1) _ rfl HO5.out _ _ rfl HKEY.out ?_; intro c hat hwc; have HAT := Aside0.mk hat; clear hat hwc)
  go_ret
  have ec : c = IntKind.i16.wrap lg.length := by have h := HAT.out; rw [atKey_put_same HO3.out.isMap (kg_lit _)] at h; simpa using h.symm
  have e1 : mAns D ⟨y0, y1, y2⟩ lg = c := by unfold mAns; rw [if_neg (by rw [HH.out]; simp), ec]
  have e2 : mLst D ⟨y0, y1, y2⟩ lg = lg ++ [⟨y0, y1, y2⟩] := by unfold mLst; rw [if_neg (by rw [HH.out]; simp)]
  have e3 : mMap D ⟨y0, y1, y2⟩ lg = D.put (kg ⟨y0, y1, y2⟩) (.lit (.int .i16 (IntKind.i16.wrap lg.length))) := by unfold mMap; rw [if_neg (by rw [HH.out]; simp)]
  rw [e1, e2, e3]
  refine ⟨u1', rfl, ?_, blk_grown H2.out HG5.out (fun he => NOP'.out (Option.some.inj he).symm), H3.out.grown HG5.out (Nat.le_trans HBd.out.size H4.out) (fun j hj => by cases hj; exact HBB.out), Nat.le_trans (Nat.le_trans HWd.out.size H4.out) HG5.out.size, by simpa using HO5.out, fun j hj h1 h2 h3 => ?_⟩
  · refine Kd.R_mono (Kd.R_move (Kd.R_bound H1.out) (fun k hk2 => ?_)) (fun _ hk => hk.1)
    obtain ⟨_, q1, q2, t, ht, cells, hc⟩ := hk2
    exact HG5.out.block k q2 (fun he => own_not_cells HO3.out hc (Option.some.inj he))
  · exact (HG5.out.block j (Nat.lt_of_lt_of_le hj (Nat.le_trans HWd.out.size H4.out)) (fun he => h2 (Option.some.inj he))).trans ((H5.out j (Nat.lt_of_lt_of_le hj HWd.out.size) h1 h3).trans (HWd.out.block j hj))
set_option maxHeartbeats 8000000 in
set_option maxRecDepth 100000 in
theorem mk_turn_true (gk b gp : Nat) (i : Nat) (a0 : Int) (u1 u2 : Value) (lg : List S68) (y0 y1 y2 : Int) (ok : Nat → Prop) (w0 w : World) (D : DataW Unit) (hB : Below w0.heap.size w0 w) (hgp : w0.heap.size ≤ gp) (hbk : w.heap[gp]? = some (.cells #[.int .i8 a0, u1, u2] 30 (0, 0))) (hr : Kd.R k68 68 w w0.heap.size ok u1 lg) (hfresh : ∀ k, w.heap.size ≤ k → ok k) (hl : lg.length < 23456248059221)
    (hk : w.heap[gk]? = some (.cells #[.map (some b)] 76 (0, 0))) (hbb : w0.heap.size ≤ b) (ho : mOwn w b lg.length D) (hp : y0 = 2 ∨ y0 = 3) (hq : y2 < y1) (hy : wfg ⟨y0, y2, y1⟩) (hh : Maps.has D (kg ⟨y0, y2, y1⟩) = true) :
    Calls Try.prog 59 #[.pointer (some ⟨gp, 0, none⟩), .int .i64 i, .agg #[.int .i8 y0, .int .i16 y1, .int .i16 y2], .pointer (some ⟨gk, 0, none⟩)] w fun e w' => ∃ u1', e = .returned (.int .i16 (mAns D ⟨y0, y2, y1⟩ lg)) ∧ Kd.R k68 68 w' w0.heap.size ok u1' (mLst D ⟨y0, y2, y1⟩ lg) ∧ w'.heap[gp]? = some (.cells #[.int .i8 a0, u1', u2] 30 (0, 0)) ∧ Below w0.heap.size w0 w' ∧ w.heap.size ≤ w'.heap.size ∧ mOwn w' b (mLst D ⟨y0, y2, y1⟩ lg).length (mMap D ⟨y0, y2, y1⟩ lg) ∧ (∀ i, i < w.heap.size → i ≠ gp → i ≠ b → some i ≠ u1.ownBlock → w'.heap[i]? = w.heap[i]?) := by
  have hu30 := Try.underlying30
  have hu68 := Try.underlying68
  have HB := Aside0.mk hB
  have HG := Aside0.mk hgp
  have BK := Aside0.mk hbk
  have HR := Aside0.mk hr
  have HF := Aside0.mk hfresh
  have HL := Aside0.mk hl
  have HK := Aside0.mk hk
  have HBB := Aside0.mk hbb
  have HO := Aside0.mk ho
  have HKEY := Aside0.mk (key_gate hy)
  have HH := Aside0.mk hh
  have hP : impl_Gate_isPair.f y0 y1 y2 = some true := by
    unfold impl_Gate_isPair.f
    by_cases h2 : y0 = 2
    · simp [h2] at hp ⊢
    · rw [if_neg h2]; by_cases h3 : y0 = 3 <;> simp [h2, h3] at hp ⊢
  have HP := Aside0.mk hP
  clear hB hgp hbk hr hfresh hl hk hbb ho hy hh hP
  have q1 : (y1 > y2) = True := eq_true hq
  clear hp hq
  go_enter Try.func59, Try.ntmps59
  go_wp2_with (first | ((with_reducible refine gate_dst (N := 6) rfl ?_); refine box_event ?hg (N := 6) ?hd (cs := #[.int .i8 y0, .int .i16 y1, .int .i16 y2]) (t := 68) ?hr ?_; (case hd => rfl); (case hg => rfl); (case hr => first | (go_simp; done) | (go_simp; rfl)); intro gb hg w1 hbox hb; have GN1 := Aside0.mk (show w.heap.size ≤ gb by rw [hg]; exact Nat.le_refl _); have HW1 := Aside0.mk hb; have BB1 := Aside0.mk hbox; clear hb hbox hg; have hg0 : w1.cell? ⟨gb, 0, none⟩ = some (.int .i8 y0) := (blk_cell BB1.out 0).trans rfl; have hg1 : w1.cell? ⟨gb, 1, none⟩ = some (.int .i16 y1) := (blk_cell BB1.out 1).trans rfl; have hg2 : w1.cell? ⟨gb, 2, none⟩ = some (.int .i16 y2) := (blk_cell BB1.out 2).trans rfl) | (go_at_call 49; (with_reducible refine (impl_Gate_isPair.calls y0 y1 y2 true _ HP.out).mono ?_); rintro e w2 ⟨rfl, hb⟩; have HW2 := Aside0.mk (below_step HW1.out hb); have BB2 := Aside0.mk (blk_below BB1.out hb); clear hb; have hi0 : w2.cell? ⟨gb, 0, none⟩ = some (.int .i8 y0) := (blk_cell BB2.out 0).trans rfl; have hi1 : w2.cell? ⟨gb, 1, none⟩ = some (.int .i16 y1) := (blk_cell BB2.out 1).trans rfl; have hi2 : w2.cell? ⟨gb, 2, none⟩ = some (.int .i16 y2) := (blk_cell BB2.out 2).trans rfl; have hf1 := blk_frozen BB2.out 1; have hf2 := blk_frozen BB2.out 2; have hik : w2.cell? ⟨gk, 0, none⟩ = some (.map (some b)) := (blk_cell (blk_below HK.out HW2.out) 0).trans rfl; have NBB := Aside0.mk (show b ≠ gb by have := HO.out.lt; have := GN1.out; omega)) | (at_lookup; refine wpList_lookup_own_ok_int _ rfl _ _ 76 rfl 68 66 .i16 law68 und76 und66 (zero66 _) b lg.length D rfl (((own_heap HO.out (HW2.out.block b HO.out.lt)).setCell (a := ⟨gb, 1, none⟩) NBB.out (.int .i16 y2)).setCell (a := ⟨gb, 2, none⟩) NBB.out (.int .i16 y1)) _ _ rfl HKEY.out ?_; intro c hat hwc; have HAT := Aside0.mk hat; clear hat hwc; rw [HH.out]))
  have HWE := Aside0.mk (show Below w.heap.size w ((w2.setCell ⟨gb, 1, none⟩ (.int .i16 y2)).setCell ⟨gb, 2, none⟩ (.int .i16 y1)) from below_set (below_set HW2.out GN1.out) GN1.out)
  go_ret
  have e1 : mAns D ⟨y0, y2, y1⟩ lg = c := by unfold mAns ansOf; rw [if_pos HH.out, HAT.out]
  have e2 : mLst D ⟨y0, y2, y1⟩ lg = lg := by unfold mLst; rw [if_pos HH.out]
  have e3 : mMap D ⟨y0, y2, y1⟩ lg = D := by unfold mMap; rw [if_pos HH.out]
  rw [e1, e2, e3]
  exact ⟨u1, rfl, Kd.R_below HR.out HWE.out, blk_below BK.out HWE.out, below_up HB.out HB.out.size HWE.out, HWE.out.size, own_heap HO.out (HWE.out.block b HO.out.lt), fun j hj _ _ _ => HWE.out.block j hj⟩
set_option maxHeartbeats 8000000 in
set_option maxRecDepth 100000 in
theorem mk_turn_false (gk b gp : Nat) (i : Nat) (a0 : Int) (u1 u2 : Value) (lg : List S68) (y0 y1 y2 : Int) (ok : Nat → Prop) (w0 w : World) (D : DataW Unit) (hB : Below w0.heap.size w0 w) (hgp : w0.heap.size ≤ gp) (hbk : w.heap[gp]? = some (.cells #[.int .i8 a0, u1, u2] 30 (0, 0))) (hr : Kd.R k68 68 w w0.heap.size ok u1 lg) (hfresh : ∀ k, w.heap.size ≤ k → ok k) (hl : lg.length < 23456248059221)
    (hk : w.heap[gk]? = some (.cells #[.map (some b)] 76 (0, 0))) (hbb : w0.heap.size ≤ b) (ho : mOwn w b lg.length D) (hp : y0 = 2 ∨ y0 = 3) (hq : y2 < y1) (hy : wfg ⟨y0, y2, y1⟩) (hh : Maps.has D (kg ⟨y0, y2, y1⟩) = false) :
    Calls Try.prog 59 #[.pointer (some ⟨gp, 0, none⟩), .int .i64 i, .agg #[.int .i8 y0, .int .i16 y1, .int .i16 y2], .pointer (some ⟨gk, 0, none⟩)] w fun e w' => ∃ u1', e = .returned (.int .i16 (mAns D ⟨y0, y2, y1⟩ lg)) ∧ Kd.R k68 68 w' w0.heap.size ok u1' (mLst D ⟨y0, y2, y1⟩ lg) ∧ w'.heap[gp]? = some (.cells #[.int .i8 a0, u1', u2] 30 (0, 0)) ∧ Below w0.heap.size w0 w' ∧ w.heap.size ≤ w'.heap.size ∧ mOwn w' b (mLst D ⟨y0, y2, y1⟩ lg).length (mMap D ⟨y0, y2, y1⟩ lg) ∧ (∀ i, i < w.heap.size → i ≠ gp → i ≠ b → some i ≠ u1.ownBlock → w'.heap[i]? = w.heap[i]?) := by
  have hu30 := Try.underlying30
  have hu68 := Try.underlying68
  have HB := Aside0.mk hB
  have HG := Aside0.mk hgp
  have BK := Aside0.mk hbk
  have HR := Aside0.mk hr
  have HF := Aside0.mk hfresh
  have HL := Aside0.mk hl
  have HK := Aside0.mk hk
  have HBB := Aside0.mk hbb
  have HO := Aside0.mk ho
  have HKEY := Aside0.mk (key_gate hy)
  have HH := Aside0.mk hh
  have hP : impl_Gate_isPair.f y0 y1 y2 = some true := by
    unfold impl_Gate_isPair.f
    by_cases h2 : y0 = 2
    · simp [h2] at hp ⊢
    · rw [if_neg h2]; by_cases h3 : y0 = 3 <;> simp [h2, h3] at hp ⊢
  have HP := Aside0.mk hP
  clear hB hgp hbk hr hfresh hl hk hbb ho hy hh hP
  have q1 : (y1 > y2) = True := eq_true hq
  clear hp hq
  go_enter Try.func59, Try.ntmps59
  go_wp2_with (first | ((with_reducible refine gate_dst (N := 6) rfl ?_); refine box_event ?hg (N := 6) ?hd (cs := #[.int .i8 y0, .int .i16 y1, .int .i16 y2]) (t := 68) ?hr ?_; (case hd => rfl); (case hg => rfl); (case hr => first | (go_simp; done) | (go_simp; rfl)); intro gb hg w1 hbox hb; have GN1 := Aside0.mk (show w.heap.size ≤ gb by rw [hg]; exact Nat.le_refl _); have HW1 := Aside0.mk hb; have BB1 := Aside0.mk hbox; clear hb hbox hg; have hg0 : w1.cell? ⟨gb, 0, none⟩ = some (.int .i8 y0) := (blk_cell BB1.out 0).trans rfl; have hg1 : w1.cell? ⟨gb, 1, none⟩ = some (.int .i16 y1) := (blk_cell BB1.out 1).trans rfl; have hg2 : w1.cell? ⟨gb, 2, none⟩ = some (.int .i16 y2) := (blk_cell BB1.out 2).trans rfl) | (go_at_call 49; (with_reducible refine (impl_Gate_isPair.calls y0 y1 y2 true _ HP.out).mono ?_); rintro e w2 ⟨rfl, hb⟩; have HW2 := Aside0.mk (below_step HW1.out hb); have BB2 := Aside0.mk (blk_below BB1.out hb); clear hb; have hi0 : w2.cell? ⟨gb, 0, none⟩ = some (.int .i8 y0) := (blk_cell BB2.out 0).trans rfl; have hi1 : w2.cell? ⟨gb, 1, none⟩ = some (.int .i16 y1) := (blk_cell BB2.out 1).trans rfl; have hi2 : w2.cell? ⟨gb, 2, none⟩ = some (.int .i16 y2) := (blk_cell BB2.out 2).trans rfl; have hf1 := blk_frozen BB2.out 1; have hf2 := blk_frozen BB2.out 2; have hik : w2.cell? ⟨gk, 0, none⟩ = some (.map (some b)) := (blk_cell (blk_below HK.out HW2.out) 0).trans rfl; have NBB := Aside0.mk (show b ≠ gb by have := HO.out.lt; have := GN1.out; omega)) | (at_lookup; refine wpList_lookup_own_ok_int _ rfl _ _ 76 rfl 68 66 .i16 law68 und76 und66 (zero66 _) b lg.length D rfl (((own_heap HO.out (HW2.out.block b HO.out.lt)).setCell (a := ⟨gb, 1, none⟩) NBB.out (.int .i16 y2)).setCell (a := ⟨gb, 2, none⟩) NBB.out (.int .i16 y1)) _ _ rfl HKEY.out ?_; intro c hat hwc; have HAT := Aside0.mk hat; clear hat hwc; rw [HH.out]))
  have HWE := Aside0.mk (show Below w.heap.size w ((w2.setCell ⟨gb, 1, none⟩ (.int .i16 y2)).setCell ⟨gb, 2, none⟩ (.int .i16 y1)) from below_set (below_set HW2.out GN1.out) GN1.out)
  have BBE := Aside0.mk (show (((w2.setCell ⟨gb, 1, none⟩ (.int .i16 y2)).setCell ⟨gb, 2, none⟩ (.int .i16 y1))).heap[gb]? = some (.cells #[.int .i8 y0, .int .i16 y2, .int .i16 y1] 68 (0, 0)) from blk_put (blk_put BB2.out 1 (.int .i16 y2) rfl) 2 (.int .i16 y1) rfl)
  have BKE := Aside0.mk (blk_below BK.out HWE.out)
  have HKE := Aside0.mk (blk_below HK.out HWE.out)
  have HRE := Aside0.mk (Kd.R_below HR.out HWE.out)
  have HOE := Aside0.mk (own_heap HO.out (HWE.out.block b HO.out.lt))
  have HBE := Aside0.mk (below_up HB.out HB.out.size HWE.out)
  have NBP := Aside0.mk (show gb ≠ gp by have := blk_lt BK.out; have := GN1.out; omega)
  have NBO := Aside0.mk (show some gb ≠ u1.ownBlock from fun he => by have := Kd.R_lt HR.out gb he.symm; have := GN1.out; omega)
  clear HW2 BB2 hi0 hi1 hi2 hf1 hf2 hik HW1 BB1 hg0 hg1 hg2 HAT
  generalize ((w2.setCell ⟨gb, 1, none⟩ (.int .i16 y2)).setCell ⟨gb, 2, none⟩ (.int .i16 y1)) = wE at HWE BBE BKE HKE HRE HOE HBE ⊢
  refine start_ (n := 6) (S := fun w' => w'.cell? ⟨gk, 0, none⟩ = some (.map (some b)) ∧ w'.cell? ⟨gb, 0, none⟩ = some (Value.int .i8 y0) ∧ w'.cell? ⟨gb, 1, none⟩ = some (Value.int .i16 y2) ∧ w'.cell? ⟨gb, 2, none⟩ = some (Value.int .i16 y1)) (ds := [5]) #[false, false, false, false, false, false] (by kernel_rfl) rfl rfl ⟨(blk_cell HKE.out 0).trans rfl, (blk_cell BBE.out 0).trans rfl, (blk_cell BBE.out 1).trans rfl, (blk_cell BBE.out 2).trans rfl⟩ (fun hHeld => ?_)
  have HWd := Aside0.mk (below_drew1 HWE.out)
  have BBd := Aside0.mk (blk_drew BBE.out)
  have BKd := Aside0.mk (blk_drew BKE.out)
  have HKd := Aside0.mk (blk_drew HKE.out)
  have HRd := Aside0.mk (Kd.R_drew HRE.out)
  have HOd := Aside0.mk HOE.out.drew
  have HBd := Aside0.mk (below_drew1 HBE.out)
  clear HWE BBE BKE HKE HRE HOE HBE
  generalize wE.drew = wd at HWd BBd BKd HKd HRd HOd HBd hHeld ⊢
  refine pure_ (i := 2) (N := some 35) (v := ?_) (a' := ?_) #[false, false, true, false, false, false] rfl rfl (by kernel_rfl) (fun _ _ _ h => h) (Or.inl ⟨by rfl, ?_⟩) ?_ ?_
  rotate_left
  · intro w'
    go_simp
    with_reducible rfl
  rotate_left
  · simp only [Act.put, List.setIfInBounds_toArray, List.set_cons_zero, List.set_cons_succ, i64_w, i32_w]
    rfl
  refine take_ (i := 0) (N := some 33) (v := ?_) (a' := ?_) #[true, false, true, false, false, false] rfl rfl (by kernel_rfl) (fun _ _ _ h => h) (Or.inl ⟨by rfl, ?_⟩) hHeld ?_ ?_
  rotate_left
  · rintro w' ⟨s0, s1, s2, s3⟩
    go_simp
    with_reducible rfl
  rotate_left
  · simp only [Act.put, List.setIfInBounds_toArray, List.set_cons_zero, List.set_cons_succ, i64_w, i32_w]
    rfl
  refine take_ (i := 1) (N := some 34) (v := ?_) (a' := ?_) #[true, true, true, false, false, false] rfl rfl (by kernel_rfl) (fun _ _ _ h => h) (Or.inl ⟨by rfl, ?_⟩) hHeld ?_ ?_
  rotate_left
  · rintro w' ⟨s0, s1, s2, s3⟩
    go_simp
    with_reducible rfl
  rotate_left
  · simp only [Act.put, List.setIfInBounds_toArray, List.set_cons_zero, List.set_cons_succ, i64_w, i32_w]
    rfl
  refine take_ (i := 3) (N := some 36) (v := ?_) (a' := ?_) #[true, true, true, true, false, false] rfl rfl (by kernel_rfl) (fun _ _ _ h => h) (Or.inl ⟨by rfl, ?_⟩) hHeld ?_ ?_
  rotate_left
  · rintro w' ⟨s0, s1, s2, s3⟩
    go_simp
    with_reducible rfl
  rotate_left
  · simp only [Act.put, List.setIfInBounds_toArray, List.set_cons_zero, List.set_cons_succ, i64_w, i32_w]
    rfl
  refine one_ (i := 4) (N := some 37) #[true, true, true, true, true, false] rfl rfl (by kernel_rfl) (by decide) (fun K hK => ?_)
  refine goes_ Try.func60 (by kernel_rfl) rfl #[.pointer (some ⟨gp, 0, none⟩), .agg #[.int .i8 y0, .int .i16 y2, .int .i16 y1]] (by rfl) rfl rfl (by simp only [List.map_toArray, List.map_cons, List.map_nil]; rfl) ?_
  with_reducible refine (add_calls gp a0 u1 u2 lg y0 y2 y1 ok w0 _ HBd.out HG.out BKd.out HRd.out (fun k hk => HF.out k (Nat.le_trans HWd.out.size hk)) HL.out).mono ?_
  rintro e w3 ⟨u1', rfl, h1, h2, h3, h4, h5, h6⟩
  refine ⟨_, rfl, ?_⟩
  have H1 := Aside0.mk h1
  have H2 := Aside0.mk h2
  have H3 := Aside0.mk h3
  have H4 := Aside0.mk h4
  have H5 := Aside0.mk h5
  have NKP := blk_ne HKd.out BKd.out (by decide)
  have NKO : some gk ≠ u1.ownBlock := fun he => by obtain ⟨cells', hc'⟩ := Kd.R_typed HRd.out gk he.symm; rw [HKd.out] at hc'; cases hc'
  have NOP : b ≠ gp := (own_not_cells HOd.out BKd.out).symm
  have NOO : some b ≠ u1.ownBlock := fun he => by obtain ⟨cells', hc'⟩ := Kd.R_typed HRd.out b he.symm; exact own_not_cells HOd.out hc' rfl
  have HK3 := Aside0.mk ((h5 gk (blk_lt HKd.out) NKP NKO).trans HKd.out)
  have BB3 := Aside0.mk ((h5 gb (blk_lt BBd.out) NBP.out NBO.out).trans BBd.out)
  have HO3 := Aside0.mk (own_heap HOd.out (h5 b HOd.out.lt NOP NOO))
  have NOP' := Aside0.mk NOP
  clear h1 h2 h3 h4 h5 h6 NKP NKO NOP NOO hHeld
  refine hK.out _ _ ⟨(blk_cell HK3.out 0).trans rfl, (blk_cell BB3.out 0).trans rfl, (blk_cell BB3.out 1).trans rfl, (blk_cell BB3.out 2).trans rfl⟩ (fun hHeld => ?_)
  clear hK K
  refine norm_ (a' := ?_) ?_ ?_
  rotate_left
  · show Act.put _ (some 37) _ = _
    simp only [Act.put, List.setIfInBounds_toArray, List.set_cons_zero, List.set_cons_succ, i64_w, i32_w]
    rfl
  refine last_ (i := 5) (N := none) #[true, true, true, true, true, true] rfl rfl (by kernel_rfl) (by decide) (fun K hK => ?_)
  obtain ⟨w5, hrun, ho5, hg5⟩ := HO3.out.update law68 und76 (by have := HL.out; unfold maxLen; omega) HKEY.out (plainElem_int (H := Unit) und66 (wf_wrap16 lg.length))
  have HO5 := Aside0.mk ho5
  have HG5 := Aside0.mk hg5
  have HRUN := Aside0.mk hrun
  clear ho5 hg5 hrun
  refine skip_ (w1 := w5) (by rfl) rfl ?_ ?_
  · simp [execOp, Act.eval, HRUN.out, Result.andThen]
  have HK5 := Aside0.mk (blk_grown HK3.out HG5.out (fun he => own_not_cells HO3.out HK3.out (Option.some.inj he)))
  have BB5 := Aside0.mk (blk_grown BB3.out HG5.out (fun he => own_not_cells HO3.out BB3.out (Option.some.inj he)))
  have hk5 : w5.cell? ⟨gk, 0, none⟩ = some (.map (some b)) := (blk_cell HK5.out 0).trans rfl
  have hb5_0 : w5.cell? ⟨gb, 0, none⟩ = some (Value.int .i8 y0) := (blk_cell BB5.out 0).trans rfl
  have hb5_1 : w5.cell? ⟨gb, 1, none⟩ = some (Value.int .i16 y2) := (blk_cell BB5.out 1).trans rfl
  have hb5_2 : w5.cell? ⟨gb, 2, none⟩ = some (Value.int .i16 y1) := (blk_cell BB5.out 2).trans rfl
  refine hK.out _ _ ?_
  clear hK K
  refine done_ (by kernel_rfl) ?_

  go_wp2_with (at_lookup; refine wpList_lookup_own_int _ rfl _ _ 76 rfl 68 66 .i16 law68 und76 und66 (zero66 _) b (lg.length + 1) _ rfl HO5.out _ _ rfl HKEY.out ?_; intro c hat hwc; have HAT := Aside0.mk hat; clear hat hwc)
  go_ret
  have ec : c = IntKind.i16.wrap lg.length := by have h := HAT.out; rw [atKey_put_same HO3.out.isMap (kg_lit _)] at h; simpa using h.symm
  have e1 : mAns D ⟨y0, y2, y1⟩ lg = c := by unfold mAns; rw [if_neg (by rw [HH.out]; simp), ec]
  have e2 : mLst D ⟨y0, y2, y1⟩ lg = lg ++ [⟨y0, y2, y1⟩] := by unfold mLst; rw [if_neg (by rw [HH.out]; simp)]
  have e3 : mMap D ⟨y0, y2, y1⟩ lg = D.put (kg ⟨y0, y2, y1⟩) (.lit (.int .i16 (IntKind.i16.wrap lg.length))) := by unfold mMap; rw [if_neg (by rw [HH.out]; simp)]
  rw [e1, e2, e3]
  refine ⟨u1', rfl, ?_, blk_grown H2.out HG5.out (fun he => NOP'.out (Option.some.inj he).symm), H3.out.grown HG5.out (Nat.le_trans HBd.out.size H4.out) (fun j hj => by cases hj; exact HBB.out), Nat.le_trans (Nat.le_trans HWd.out.size H4.out) HG5.out.size, by simpa using HO5.out, fun j hj h1 h2 h3 => ?_⟩
  · refine Kd.R_mono (Kd.R_move (Kd.R_bound H1.out) (fun k hk2 => ?_)) (fun _ hk => hk.1)
    obtain ⟨_, q1, q2, t, ht, cells, hc⟩ := hk2
    exact HG5.out.block k q2 (fun he => own_not_cells HO3.out hc (Option.some.inj he))
  · exact (HG5.out.block j (Nat.lt_of_lt_of_le hj (Nat.le_trans HWd.out.size H4.out)) (fun he => h2 (Option.some.inj he))).trans ((H5.out j (Nat.lt_of_lt_of_le hj HWd.out.size) h1 h3).trans (HWd.out.block j hj))
end Go.Proofs.Yteanndgkjoinmaa.X.Mg

namespace Go.Proofs.Yteanndgkjoinmaa.X.Mg
open Go.RowKit Go.Proofs.YteanndgkjoinmaaW.PrintWords Go.Proofs.YteanndgkjoinmaaW.PrintLast Go.Proofs.YteanndgkjoinmaaW.PrintMore Go.Maps
set_option linter.unusedVariables false
set_option linter.unusedSimpArgs false
theorem keep_beside {g : Nat} {lb : Array Value} {N0 n : Nat} {a0 : Int} {w0 : World} {Cst : World → List S68 → Prop} {step : Nat → S68 → List S68 → Int × List S68} {Sc : Nat → Prop} {Y : Nat → S68 → List S68 → Prop} {b : Nat} {o : Obj} (h : KeepSpec g lb N0 n a0 w0 Cst step Sc Y) (hb : b < N0) (hs : ¬ Sc b) : KeepSpec g lb N0 n a0 w0 (fun W og => Cst W og ∧ W.heap[b]? = some o) step Sc Y := by
  intro i y0 y1 y2 gp u1 u2 lg W hi hl hY hgp hB hbk hr hz hc
  refine (h i y0 y1 y2 gp u1 u2 lg W hi hl hY hgp hB hbk hr hz hc.1).mono ?_
  rintro e w' ⟨he, u1', h1, h2, h3, h4, h5, h6⟩
  exact ⟨he, u1', h1, h2, h3, h4, ⟨h5, (h6 b (blk_lt hc.2) (.inr hs) (by omega) (fun he => by have := hr.1 b he.symm; omega)).trans hc.2⟩, h6⟩
def mDr : List S68 → DataW Unit
  | [] => .map []
  | z :: r => (mDr r).put (kg z) (.lit (.int .i16 (IntKind.i16.wrap r.length)))
def mD (og : List S68) : DataW Unit := mDr og.reverse
theorem mD_snoc (og : List S68) (z : S68) : mD (og ++ [z]) = (mD og).put (kg z) (.lit (.int .i16 (IntKind.i16.wrap og.length))) := by simp [mD, mDr]
def mStep (i : Nat) (y : S68) (og : List S68) : Int × List S68 := (mAns (mD og) (sw y) og, mLst (mD og) (sw y) og)
theorem mStep_len (i : Nat) (y : S68) (lg : List S68) (h : lg.length ≤ i) : (mStep i y lg).2.length ≤ i + 1 := by
  simp only [mStep, mLst]
  by_cases hc : Maps.has (mD lg) (kg (sw y)) = true
  · rw [if_pos hc]; omega
  · rw [if_neg hc]; simp; omega
theorem mD_step (i : Nat) (y : S68) (og : List S68) : mD (mStep i y og).2 = mMap (mD og) (sw y) og := by
  simp only [mStep, mLst, mMap]
  split
  · rfl
  · exact mD_snoc og _
theorem sw_wf {y : S68} (h : wfg y) : wfg (sw y) := by
  unfold sw
  split
  · exact ⟨h.1, h.2.2, h.2.1⟩
  · exact h
def wfgB (y : S68) : Bool := (Lit.int .i8 y.f0).wf && (Lit.int .i16 y.f1).wf && (Lit.int .i16 y.f2).wf
theorem wfgB_of {y : S68} : wfgB y = true ↔ wfg y := by simp [wfgB, wfg, and_assoc]
theorem isMap_mDr : ∀ r, IsMap (mDr r)
  | [] => isMap_empty
  | z :: r => (isMap_mDr r).put _ _
theorem ans_wf (z : S68) : ∀ r, (Lit.int .i16 (ansOf (mDr r) z)).wf = true
  | [] => by
    have : ansOf (mDr []) z = 0 := rfl
    rw [this]; decide +kernel
  | x :: r => by
    unfold ansOf mDr
    by_cases h : kg z = kg x
    · rw [h, atKey_put_same (isMap_mDr r) (kg_lit x)]
      exact wf_wrap16 _
    · rw [atKey_put_other h]
      exact ans_wf z r
theorem mAns_wf (og : List S68) (z : S68) : (Lit.int .i16 (mAns (mD og) z og)).wf = true := by
  unfold mAns
  split
  · exact ans_wf _ _
  · exact wf_wrap16 _
def mInv (i : Nat) (pl : List Int) (og : List S68) : Prop := ∀ x ∈ pl, (Lit.int .i16 x).wf = true
theorem rd_wf {pl : List Int} (h : ∀ x ∈ pl, (Lit.int .i16 x).wf = true) (i : Int) : (Lit.int .i16 (rd pl i)).wf = true := by
  unfold rd
  rw [List.getD_eq_getElem?_getD]
  cases hc : pl[i.toNat]? with
  | none => simp only [Option.getD_none]; decide +kernel
  | some x => exact h x (List.mem_of_getElem? hc)
theorem mInv_step (l1 : List S68) (hw : l1.all wfgB = true) (i : Nat) (pl : List Int) (og : List S68) (x : S68) (hx : l1[i]? = some x) (hpl : pl.length = i) (h : mInv i pl og) : wfg (if x.f0 = 2 ∨ x.f0 = 3 then ⟨x.f0, rd pl x.f1, rd pl x.f2⟩ else x) ∧ mInv (i + 1) (pl ++ [(mStep i (if x.f0 = 2 ∨ x.f0 = 3 then ⟨x.f0, rd pl x.f1, rd pl x.f2⟩ else x) og).1]) (mStep i (if x.f0 = 2 ∨ x.f0 = 3 then ⟨x.f0, rd pl x.f1, rd pl x.f2⟩ else x) og).2 := by
  have hxw : wfg x := wfgB_of.1 (List.all_eq_true.1 hw x (List.mem_of_getElem? hx))
  refine ⟨?_, ?_⟩
  · split
    · exact ⟨hxw.1, rd_wf h _, rd_wf h _⟩
    · exact hxw
  · intro v hv
    rcases List.mem_append.1 hv with hv | hv
    · exact h v hv
    · rw [List.mem_singleton] at hv
      subst hv
      exact mAns_wf _ _
theorem mk_all (gk b gp : Nat) (i : Nat) (a0 : Int) (u1 u2 : Value) (lg : List S68) (y0 y1 y2 : Int) (ok : Nat → Prop) (w0 w : World) (D : DataW Unit) (hB : Below w0.heap.size w0 w) (hgp : w0.heap.size ≤ gp) (hbk : w.heap[gp]? = some (.cells #[.int .i8 a0, u1, u2] 30 (0, 0))) (hr : Kd.R k68 68 w w0.heap.size ok u1 lg) (hfresh : ∀ k, w.heap.size ≤ k → ok k) (hl : lg.length < 23456248059221)
    (hk : w.heap[gk]? = some (.cells #[.map (some b)] 76 (0, 0))) (hbb : w0.heap.size ≤ b) (ho : mOwn w b lg.length D) (hy : wfg ⟨y0, y1, y2⟩) :
    Calls Try.prog 59 #[.pointer (some ⟨gp, 0, none⟩), .int .i64 i, .agg #[.int .i8 y0, .int .i16 y1, .int .i16 y2], .pointer (some ⟨gk, 0, none⟩)] w fun e w' => ∃ u1', e = .returned (.int .i16 (mAns D (sw ⟨y0, y1, y2⟩) lg)) ∧ Kd.R k68 68 w' w0.heap.size ok u1' (mLst D (sw ⟨y0, y1, y2⟩) lg) ∧ w'.heap[gp]? = some (.cells #[.int .i8 a0, u1', u2] 30 (0, 0)) ∧ Below w0.heap.size w0 w' ∧ w.heap.size ≤ w'.heap.size ∧ mOwn w' b (mLst D (sw ⟨y0, y1, y2⟩) lg).length (mMap D (sw ⟨y0, y1, y2⟩) lg) ∧ (∀ i, i < w.heap.size → i ≠ gp → i ≠ b → some i ≠ u1.ownBlock → w'.heap[i]? = w.heap[i]?) := by
  by_cases hp : y0 = 2 ∨ y0 = 3
  · by_cases hq : y2 < y1
    · have e : sw ⟨y0, y1, y2⟩ = ⟨y0, y2, y1⟩ := by unfold sw; rw [if_pos ⟨hp, hq⟩]
      rw [e]
      have hy' : wfg ⟨y0, y2, y1⟩ := ⟨hy.1, hy.2.2, hy.2.1⟩
      cases hh : Maps.has D (kg ⟨y0, y2, y1⟩) with
      | true => exact mk_turn_true gk b gp i a0 u1 u2 lg y0 y1 y2 ok w0 w D hB hgp hbk hr hfresh hl hk hbb ho hp hq hy' hh
      | false => exact mk_turn_false gk b gp i a0 u1 u2 lg y0 y1 y2 ok w0 w D hB hgp hbk hr hfresh hl hk hbb ho hp hq hy' hh
    · have e : sw ⟨y0, y1, y2⟩ = ⟨y0, y1, y2⟩ := by unfold sw; rw [if_neg (fun h => hq h.2)]
      rw [e]
      cases hh : Maps.has D (kg ⟨y0, y1, y2⟩) with
      | true => exact mk_ord_true gk b gp i a0 u1 u2 lg y0 y1 y2 ok w0 w D hB hgp hbk hr hfresh hl hk hbb ho hp hq hy hh
      | false => exact mk_ord_false gk b gp i a0 u1 u2 lg y0 y1 y2 ok w0 w D hB hgp hbk hr hfresh hl hk hbb ho hp hq hy hh
  · have e : sw ⟨y0, y1, y2⟩ = ⟨y0, y1, y2⟩ := by unfold sw; rw [if_neg (fun h => hp h.1)]
    rw [e]
    cases hh : Maps.has D (kg ⟨y0, y1, y2⟩) with
    | true => exact mk_no_true gk b gp i a0 u1 u2 lg y0 y1 y2 ok w0 w D hB hgp hbk hr hfresh hl hk hbb ho hp hy hh
    | false => exact mk_no_false gk b gp i a0 u1 u2 lg y0 y1 y2 ok w0 w D hB hgp hbk hr hfresh hl hk hbb ho hp hy hh
def mCst (gk b : Nat) (W : World) (og : List S68) : Prop := W.heap[gk]? = some (.cells #[.map (some b)] 76 (0, 0)) ∧ mOwn W b og.length (mD og)
theorem mKeep_spec (gk b N0 n : Nat) (a0 : Int) (w0 : World) (hs : w0.heap.size ≤ N0) (hgk : gk < N0) (hb : b < N0) (hbb : w0.heap.size ≤ b) (hm : n ≤ 600) :
    KeepSpec 59 #[.pointer (some ⟨gk, 0, none⟩)] N0 n a0 w0 (mCst gk b) mStep (fun j => j = b) (fun _ y _ => wfg y) := by
  intro i y0 y1 y2 gp u1 u2 lg W hi hl hY hgp hB hbk hr hz hc
  refine (mk_all gk b gp i a0 u1 u2 lg y0 y1 y2 (fun k => N0 ≤ k) w0 W (mD lg) hB (Nat.le_trans hs hgp) hbk hr (fun k hk => Nat.le_trans hz hk) (by omega) hc.1 hbb hc.2 hY).mono ?_
  rintro e w' ⟨u1', rfl, h1, h2, h3, h4, h5, h6⟩
  have own1 : some gk ≠ u1.ownBlock := fun he => by have := hr.1 gk he.symm; omega
  have nb : gk ≠ b := own_not_cells hc.2 hc.1
  refine ⟨rfl, u1', h1, h2, h3, h4, ⟨(h6 gk (Nat.lt_of_lt_of_le hgk hz) (by omega) nb own1).trans hc.1, ?_⟩, fun j hj hsc hg hne => h6 j hj hg (fun he => ?_) hne⟩
  · rw [mD_step]
    exact h5
  · rcases hsc with h | h
    · omega
    · exact h he
def hand_MergeCircuit.f (k : Nat) (a0_0 : Int) (l0_1 : List S68) (l0_2 : List Int) : Option (Int × (List S68) × List Int × Int) :=
  (impl_ValidCircuit.f k a0_0 l0_1 l0_2).bind fun b => if b = true then (if (decide (l0_1.length ≤ 600 ∧ l0_2.length ≤ 16) && gOk l0_1 0 && oOk l0_1.length l0_2 && l0_1.all wfgB) = true then some (a0_0, (renL mStep l0_1 0 [] []).2, l0_2.map (fun o => rd (renL mStep l0_1 0 [] []).1 o), 0) else none) else some (0, [], [], 1)
set_option maxHeartbeats 8000000 in
set_option maxRecDepth 100000 in
theorem hand_MergeCircuit.calls (k : Nat) (a0_0 : Int) (A0_1 : Option Addr) (c0_1 : Nat) (l0_1 : List (S68)) (A0_2 : Option Addr) (c0_2 : Nat) (l0_2 : List Int) (r1 : Int) (r2 : List (S68)) (r3 : List Int) (r4 : Int) (w : World) (hr0_1 : Kd.C k68 w A0_1 l0_1.length l0_1) (hc0_1 : l0_1.length ≤ c0_1) (hr0_2 : Kd.C (Kd.int .i16) w A0_2 l0_2.length l0_2) (hc0_2 : l0_2.length ≤ c0_2) (h : hand_MergeCircuit.f k a0_0 l0_1 l0_2 = some (r1, r2, r3, r4)) :
    Calls Try.prog 17 #[.agg #[.int .i8 a0_0, .slice A0_1 l0_1.length c0_1, .slice A0_2 l0_2.length c0_2]] w fun e w' => ∃ v1_ v2_ : Value, e = .returned (.tuple #[.agg #[.int .i8 r1, v1_, v2_], .int .i64 r4]) ∧ Kd.R k68 68 w' w.heap.size (fun _ => True) v1_ r2 ∧ Kd.R (Kd.int .i16) 66 w' w.heap.size (fun _ => True) v2_ r3 ∧ Below w.heap.size w w' := by
  have hu30 := Try.underlying30
  have HR1 := Aside0.mk hr0_1
  have HR2 := Aside0.mk hr0_2
  have HC1 := Aside0.mk hc0_1
  have HC2 := Aside0.mk hc0_2
  unfold hand_MergeCircuit.f at h
  obtain ⟨b, hb, h⟩ := Option.bind_eq_some_iff.mp h
  have HV := Aside0.mk hb
  clear hr0_1 hr0_2 hc0_1 hc0_2 hb
  cases b with
  | false =>
    rw [if_neg (by simp)] at h
    simp only [Option.some.injEq, Prod.mk.injEq] at h
    obtain ⟨rfl, rfl, rfl, rfl⟩ := h
    go_enter Try.func17, Try.ntmps17
    go_wp2_with (first
      | ((with_reducible refine gate_dst (N := 1) rfl ?_); refine box_event ?hg (N := 1) ?hd (cs := #[.int .i8 a0_0, .slice A0_1 l0_1.length c0_1, .slice A0_2 l0_2.length c0_2]) (t := 30) ?hr ?_; (case hd => rfl); (case hg => rfl); (case hr => first | (go_simp; done) | (go_simp; rfl)); intro gb1 hg w1 hbox hb; have HB1 := Aside0.mk hb; have BK1 := Aside0.mk hbox; clear hb hbox hg)
      | ((with_reducible refine gate_dst (N := 2) rfl ?_); refine box_event ?hg (N := 2) ?hd (cs := #[.int .i8 0, .slice none 0 0, .slice none 0 0]) (t := 30) ?hr ?_; (case hd => rfl); (case hg => rfl); (case hr => first | (go_simp; done) | (go_simp; rfl)); intro gb2 hg w2 hbox hb; have HB2 := Aside0.mk (below_step HB1.out hb); have GE2 := Aside0.mk (show w.heap.size ≤ gb2 by rw [hg]; exact HB1.out.size); have BK1b := Aside0.mk (blk_below BK1.out hb); have BK2 := Aside0.mk hbox; clear hb hbox hg; have hcz1_0 : w2.cell? ⟨gb1, 0, none⟩ = some (.int .i8 a0_0) := (blk_cell BK1b.out 0).trans rfl; have hcz1_1 : w2.cell? ⟨gb1, 1, none⟩ = some (.slice A0_1 l0_1.length c0_1) := (blk_cell BK1b.out 1).trans rfl; have hcz1_2 : w2.cell? ⟨gb1, 2, none⟩ = some (.slice A0_2 l0_2.length c0_2) := (blk_cell BK1b.out 2).trans rfl)
      | (go_at_call 35; (with_reducible refine (impl_ValidCircuit.calls k a0_0 A0_1 c0_1 l0_1 A0_2 c0_2 l0_2 false _ (Kd.C_below HR1.out HB2.out) HC1.out (Kd.C_below HR2.out HB2.out) HC2.out HV.out).mono ?_); rintro e w3 ⟨rfl, hb⟩; have HB3 := Aside0.mk (below_step HB2.out hb); have BK2b := Aside0.mk (blk_below BK2.out hb); clear hb; have hcz2_0 : w3.cell? ⟨gb2, 0, none⟩ = some (.int .i8 0) := (blk_cell BK2b.out 0).trans rfl; have hcz2_1 : w3.cell? ⟨gb2, 1, none⟩ = some (.slice none 0 0) := (blk_cell BK2b.out 1).trans rfl; have hcz2_2 : w3.cell? ⟨gb2, 2, none⟩ = some (.slice none 0 0) := (blk_cell BK2b.out 2).trans rfl; have hfz2_0 := blk_frozen BK2b.out 0; have hfz2_1 := blk_frozen BK2b.out 1; have hfz2_2 := blk_frozen BK2b.out 2))
    refine bodyPost_ret (results_ct rfl _ _ gb2 30 #[.int .i8 0, .slice none 0 0, .slice none 0 0] (0, 0) _ rfl (blk_put (blk_put (blk_put BK2b.out 0 (.int .i8 0) rfl) 1 (.slice none 0 0) rfl) 2 (.slice none 0 0) rfl) Try.underlying30 rfl (by kernel_rfl)) rfl ?_
    exact ⟨_, _, rfl, Kd.R_nil _ _ _ _ _, Kd.R_nil _ _ _ _ _, below_set (below_set (below_set HB3.out GE2.out) GE2.out) GE2.out⟩
  | true =>
    rw [if_pos rfl] at h
    by_cases hok : (decide (l0_1.length ≤ 600 ∧ l0_2.length ≤ 16) && gOk l0_1 0 && oOk l0_1.length l0_2 && l0_1.all wfgB) = true
    · rw [if_pos hok] at h
      rw [Bool.and_eq_true, Bool.and_eq_true, Bool.and_eq_true, decide_eq_true_eq] at hok
      obtain ⟨⟨⟨⟨ho1, ho2⟩, ho4⟩, ho5⟩, ho6⟩ := hok
      simp only [Option.some.injEq, Prod.mk.injEq] at h
      obtain ⟨rfl, hh2, hh3, rfl⟩ := h
      have HH2 := Aside0.mk hh2
      have HH3 := Aside0.mk hh3
      have HO1 := Aside0.mk ho1
      have HO2 := Aside0.mk ho2
      have HO4 := Aside0.mk ho4
      have HO5 := Aside0.mk ho5
      have HO6 := Aside0.mk ho6
      clear hh2 hh3 ho1 ho2 ho4 ho5 ho6
      have hmm := @run_makeMap Try.prog
      go_enter Try.func17, Try.ntmps17
      go_wp2_with (first
        | ((with_reducible refine gate_dst (N := 1) rfl ?_); refine box_event ?hg (N := 1) ?hd (cs := #[.int .i8 a0_0, .slice A0_1 l0_1.length c0_1, .slice A0_2 l0_2.length c0_2]) (t := 30) ?hr ?_; (case hd => rfl); (case hg => rfl); (case hr => first | (go_simp; done) | (go_simp; rfl)); intro gb1 hg w1 hbox hb; have HB1 := Aside0.mk hb; have BK1 := Aside0.mk hbox; clear hb hbox hg)
        | ((with_reducible refine gate_dst (N := 2) rfl ?_); refine box_event ?hg (N := 2) ?hd (cs := #[.int .i8 0, .slice none 0 0, .slice none 0 0]) (t := 30) ?hr ?_; (case hd => rfl); (case hg => rfl); (case hr => first | (go_simp; done) | (go_simp; rfl)); intro gb2 hg w2 hbox hb; have HB2 := Aside0.mk (below_step HB1.out hb); have GE2 := Aside0.mk (show w.heap.size ≤ gb2 by rw [hg]; exact HB1.out.size); have BK1b := Aside0.mk (blk_below BK1.out hb); have BK2 := Aside0.mk hbox; clear hb hbox hg; have hcz1_0 : w2.cell? ⟨gb1, 0, none⟩ = some (.int .i8 a0_0) := (blk_cell BK1b.out 0).trans rfl; have hcz1_1 : w2.cell? ⟨gb1, 1, none⟩ = some (.slice A0_1 l0_1.length c0_1) := (blk_cell BK1b.out 1).trans rfl; have hcz1_2 : w2.cell? ⟨gb1, 2, none⟩ = some (.slice A0_2 l0_2.length c0_2) := (blk_cell BK1b.out 2).trans rfl)
        | (go_at_call 35; (with_reducible refine (impl_ValidCircuit.calls k a0_0 A0_1 c0_1 l0_1 A0_2 c0_2 l0_2 true _ (Kd.C_below HR1.out HB2.out) HC1.out (Kd.C_below HR2.out HB2.out) HC2.out HV.out).mono ?_); rintro e w3 ⟨rfl, hb⟩; have HB3 := Aside0.mk (below_step HB2.out hb); have BK1c := Aside0.mk (blk_below BK1b.out hb); have BK2b := Aside0.mk (blk_below BK2.out hb); clear hb; have hcy1_0 : w3.cell? ⟨gb1, 0, none⟩ = some (.int .i8 a0_0) := (blk_cell BK1c.out 0).trans rfl; have hcy1_1 : w3.cell? ⟨gb1, 1, none⟩ = some (.slice A0_1 l0_1.length c0_1) := (blk_cell BK1c.out 1).trans rfl; have hcy1_2 : w3.cell? ⟨gb1, 2, none⟩ = some (.slice A0_2 l0_2.length c0_2) := (blk_cell BK1c.out 2).trans rfl; have hcx1_0 : ((w3.alloc (.map #[] 0)).alloc (.cells #[.map (some w3.heap.size)] 76)).cell? ⟨gb1, 0, none⟩ = some (.int .i8 a0_0) := (blk_cell (blk_alloc (blk_alloc BK1c.out _) _) 0).trans rfl; have hcx1_1 : ((w3.alloc (.map #[] 0)).alloc (.cells #[.map (some w3.heap.size)] 76)).cell? ⟨gb1, 1, none⟩ = some (.slice A0_1 l0_1.length c0_1) := (blk_cell (blk_alloc (blk_alloc BK1c.out _) _) 1).trans rfl; have hcx1_2 : ((w3.alloc (.map #[] 0)).alloc (.cells #[.map (some w3.heap.size)] 76)).cell? ⟨gb1, 2, none⟩ = some (.slice A0_2 l0_2.length c0_2) := (blk_cell (blk_alloc (blk_alloc BK1c.out _) _) 2).trans rfl))
      have HM3 := Aside0.mk (below_alloc (below_alloc (Below.refl w3.heap.size w3) (.map #[] 0)) (.cells #[.map (some w3.heap.size)] 76))
      have GEb := Aside0.mk (show w.heap.size ≤ w3.heap.size from HB3.out.size)
      have HB6 := Aside0.mk (below_step HB3.out HM3.out)
      have BKn6 := Aside0.mk (show ((w3.alloc (.map #[] 0)).alloc (.cells #[.map (some w3.heap.size)] 76)).heap[w3.heap.size + 1]? = some (.cells #[.map (some w3.heap.size)] 76 (0, 0)) by have := blk_new (w3.alloc (.map #[] 0)) (.cells #[.map (some w3.heap.size)] 76); simpa using this)
      have BK26 := Aside0.mk (blk_below BK2b.out HM3.out)
      have HOW6 := Aside0.mk (((World.ownsMap_made (H := Unit) w3 Try.prog 68 (plainElem Try.prog 66))).alloc (.cells #[.map (some w3.heap.size)] 76))
      clear HM3 hcx1_0 hcx1_1 hcx1_2
      generalize ((w3.alloc (.map #[] 0)).alloc (.cells #[.map (some w3.heap.size)] 76)) = w6 at HB6 BKn6 BK26 HOW6 ⊢
      obtain ⟨gn, hgn⟩ : ∃ g, g = w3.heap.size + 1 := ⟨_, rfl⟩
      rw [← hgn] at BKn6 ⊢
      clear hgn
      generalize w3.heap.size = bm at GEb BKn6 HOW6 ⊢
      have RC := ren_calls mStep mStep_len 59 #[.pointer (some ⟨gn, 0, none⟩)] (enters_ Try.func59 (by kernel_rfl) rfl) a0_0 A0_1 c0_1 l0_1 A0_2 c0_2 l0_2 w w6 HB6.out HR1.out HR2.out (fun W og => mCst gn bm W og ∧ W.heap[gb2]? = some (.cells #[.int .i8 0, .slice none 0 0, .slice none 0 0] 30 (0, 0)))
        (fun W W' og hc hb => ⟨⟨(hb.block gn (blk_lt BKn6.out)).trans hc.1.1, own_heap hc.1.2 (hb.block bm HOW6.out.lt)⟩, (hb.block gb2 (blk_lt BK26.out)).trans hc.2⟩) ⟨⟨BKn6.out, HOW6.out⟩, BK26.out⟩ (fun j => j = bm) (fun _ y _ => wfg y) mInv (fun x hx => by cases hx) (mInv_step l0_1 HO6.out)
        (keep_beside (mKeep_spec gn bm w6.heap.size l0_1.length a0_0 w HB6.out.size (blk_lt BKn6.out) HOW6.out.lt GEb.out HO1.out) (blk_lt BK26.out) (fun h => own_not_cells HOW6.out BK26.out h)) HO1.out HO2.out (fun i x hx hp => by have := gOk_get l0_1 0 HO4.out i x hx hp; rwa [Nat.zero_add] at this) (fun j x hx => oOk_get HO5.out j x hx)
      rw [HH2.out, HH3.out] at RC
      have RC := Aside0.mk RC
      go_wp2_with (go_at_call 58; (with_reducible refine RC.out.mono ?_); rintro e w7 ⟨v1, v2, rfl, k1, k2, k3, k4⟩; have K1 := Aside0.mk k1; have K2 := Aside0.mk k2; have K3 := Aside0.mk k3; have K4 := Aside0.mk k4.2; clear k1 k2 k3 k4; obtain ⟨A1, c1, e1⟩ := Kd.R_slice K1.out; subst e1; obtain ⟨A2, c2, e2⟩ := Kd.R_slice K2.out; subst e2; have hcz2_0 : w7.cell? ⟨gb2, 0, none⟩ = some (.int .i8 0) := (blk_cell K4.out 0).trans rfl; have hcz2_1 : w7.cell? ⟨gb2, 1, none⟩ = some (.slice none 0 0) := (blk_cell K4.out 1).trans rfl; have hcz2_2 : w7.cell? ⟨gb2, 2, none⟩ = some (.slice none 0 0) := (blk_cell K4.out 2).trans rfl; have hfz2_0 := blk_frozen K4.out 0; have hfz2_1 := blk_frozen K4.out 1; have hfz2_2 := blk_frozen K4.out 2)
      refine bodyPost_ret (results_ct rfl _ _ gb2 30 #[.int .i8 a0_0, .slice A1 r2.length c1, .slice A2 r3.length c2] (0, 0) _ rfl (blk_put (blk_put (blk_put K4.out 0 (.int .i8 a0_0) rfl) 1 (.slice A1 r2.length c1) rfl) 2 (.slice A2 r3.length c2) rfl) Try.underlying30 rfl (by kernel_rfl)) rfl ?_
      exact ⟨_, _, rfl, Kd.R_set (Kd.R_set (Kd.R_set K1.out K4.out (by decide) 0 (.int .i8 a0_0)) (blk_put K4.out 0 (.int .i8 a0_0) rfl) (by decide) 1 (.slice A1 r2.length c1)) (blk_put (blk_put K4.out 0 (.int .i8 a0_0) rfl) 1 (.slice A1 r2.length c1) rfl) (by decide) 2 (.slice A2 r3.length c2), Kd.R_set (Kd.R_set (Kd.R_set K2.out K4.out (by decide) 0 (.int .i8 a0_0)) (blk_put K4.out 0 (.int .i8 a0_0) rfl) (by decide) 1 (.slice A1 r2.length c1)) (blk_put (blk_put K4.out 0 (.int .i8 a0_0) rfl) 1 (.slice A1 r2.length c1) rfl) (by decide) 2 (.slice A2 r3.length c2), below_set (below_set (below_set K3.out GE2.out) GE2.out) GE2.out⟩
    · rw [if_neg hok] at h
      cases h
end Go.Proofs.Yteanndgkjoinmaa.X.Mg
