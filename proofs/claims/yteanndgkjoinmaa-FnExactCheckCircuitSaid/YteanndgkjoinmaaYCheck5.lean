/- FnExactCheckCircuit: program and reference answer alike, by the walks of the functions and plain laws of what they compute. -/
import Derived.Test.YteanndgkjoinmaaYCheck4
import Derived.Test.YteanndgkjoinmaaRows
import Derived.Below
import Derived.WalkKit
import Derived.ProofKit
import Derived.OpenShut
import Derived.ShutString
import Derived.ChangeOld
import Derived.SizedLaws
import Derived.Carry
import Derived.Deep.Slices
import Derived.Deep.Fields
import Derived.ChangeSame
import Derived.Lib.SmallJoins
-- Laid by wip/xprint.py of this session (the kit's print program, with some contracts given by hand). Not trusted: Lean checks it.
namespace Go.Proofs.Yteanndgkjoinmaa.X
open Go.RowKit Go.Proofs.YteanndgkjoinmaaW.PrintWords Go.Proofs.YteanndgkjoinmaaW.PrintLast Go.Proofs.YteanndgkjoinmaaW.PrintMore
attribute [local go_sem] max2_int min2_int max_two min_two max_three min_three max_four min_four
set_option linter.unusedVariables false
set_option linter.unusedSimpArgs false
def impl_Circuit_run.l0 : Nat → List Bool → Int → List Int → Int → Int → Option (Int)
  | 0, _, _, _, _, _ => none
  | k + 1, x5, x6, x13, x14, x15 => if x15 < x14 then (if 0 ≤ x15 then (if x15 < (x13.length : Int) then (if 0 ≤ (rd x13 x15) then (if (rd x13 x15) < (x5.length : Int) then (if rdOf false x5 (rd x13 x15) = true then (impl_Circuit_run.l0 k x5 (Go.bits .or .u16 x6 (shl .u16 1 x15)) x13 x14 (wrap64 (x15 + 1))) else (impl_Circuit_run.l0 k x5 x6 x13 x14 (wrap64 (x15 + 1)))) else (none)) else (none)) else (none)) else (none)) else (some x6)
def impl_Circuit_run.f (k : Nat) (a0_0 : Int) (l0_1 : List (S68)) (l0_2 : List Int) (a1 : Int) : Option (Int) := (impl_Circuit_on.f k a0_0 l0_1 l0_2 a1).bind fun t102 => (impl_Circuit_run.l0 k t102 0 l0_2 (l0_2.length : Int) 0)
set_option maxHeartbeats 8000000 in
set_option maxRecDepth 100000 in
theorem impl_Circuit_run.calls (k : Nat) (a0_0 : Int) (A0_1 : Option Addr) (c0_1 : Nat) (l0_1 : List (S68)) (A0_2 : Option Addr) (c0_2 : Nat) (l0_2 : List Int) (a1 : Int) (r : Int) (w : World) (hr0_1 : Kd.C k68 w A0_1 l0_1.length l0_1) (hc0_1 : l0_1.length ≤ c0_1) (hr0_2 : Kd.C (Kd.int .i16) w A0_2 l0_2.length l0_2) (hc0_2 : l0_2.length ≤ c0_2) (h : impl_Circuit_run.f k a0_0 l0_1 l0_2 a1 = some r) :
    Calls Try.prog 88 #[.agg #[.int .i8 a0_0, .slice A0_1 l0_1.length c0_1, .slice A0_2 l0_2.length c0_2], .int .u16 a1] w fun e w' => e = .returned (.int .u16 r) ∧ Below w.heap.size w w' := by
  have hu30 := Try.underlying30
  have HR0_1 := Aside0.mk hr0_1
  have HC0_1 := Aside0.mk hc0_1
  clear hr0_1 hc0_1
  have HR0_2 := Aside0.mk hr0_2
  have HC0_2 := Aside0.mk hc0_2
  clear hr0_2 hc0_2
  have HB := Aside0.mk (Below.refl w.heap.size w)
  have H : ((impl_Circuit_on.f k a0_0 l0_1 l0_2 a1).bind fun t102 => (impl_Circuit_run.l0 k t102 0 l0_2 (l0_2.length : Int) 0)) = some r := h
  clear h
  replace H := Option.bind_eq_some_iff.mp H
  obtain ⟨t102, A30, H⟩ := H
  replace H : (impl_Circuit_run.l0 k t102 0 l0_2 (l0_2.length : Int) 0) = some r := H
  have A3 := Aside0.mk A30
  clear A30
  have H' := Aside0.mk H
  clear H
  go_enter Try.func88, Try.ntmps88
  go_wp2_with (first | ((with_reducible refine gate_dst (N := 2) rfl ?_); refine box_event ?hg (N := 2) ?hd (cs := #[.int .i8 a0_0, .slice A0_1 l0_1.length c0_1, .slice A0_2 l0_2.length c0_2]) (t := 30) ?hr ?_; (case hd => rfl); (case hg => rfl); (case hr => first | (go_simp; done) | (go_simp; rfl)); intro gb101 hg w4 hbox hb; have n0_ := Aside0.mk (below_step (by repeat (first | (with_reducible first | exact HB.out | apply below_alloc | apply pw_below_drewN | apply below_drew1) | exact HB.out)) hb); have n1_ := Aside0.mk (hbox); have n2_ := Aside0.mk ((by rw [hg]; exact (below_size (by repeat (first | (with_reducible first | exact HB.out | apply below_alloc | apply pw_below_drewN | apply below_drew1) | exact HB.out))) : w.heap.size ≤ gb101)); have n3_ := Aside0.mk ((by rw [hg]; exact (below_size (by repeat (first | (with_reducible first | exact HB.out | apply below_alloc | apply pw_below_drewN | apply below_drew1) | exact HB.out))) : w.heap.size ≤ gb101)); clear HB; have HB := n0_; have BK101 := n1_; have GW101 := n2_; have GE101 := n3_; clear n0_ n1_ n2_ n3_; clear hb hbox hg; have hcz5_0 : w4.cell? ⟨gb101, 0, none⟩ = some (.int .i8 a0_0) := (blk_cell BK101.out 0).trans rfl; have hcz5_1 : w4.cell? ⟨gb101, 1, none⟩ = some (.slice A0_1 l0_1.length c0_1) := (blk_cell BK101.out 1).trans rfl; have hcz5_2 : w4.cell? ⟨gb101, 2, none⟩ = some (.slice A0_2 l0_2.length c0_2) := (blk_cell BK101.out 2).trans rfl; have hfz5_0 := blk_frozen BK101.out 0; have hfz5_1 := blk_frozen BK101.out 1; have hfz5_2 := blk_frozen BK101.out 2) | ((with_reducible refine gate_callee (f := 100) rfl ?_); refine goesL_ (some 11) rfl rfl Try.func100 (by kernel_rfl) rfl #[.agg #[.int .i8 a0_0, .slice A0_1 l0_1.length c0_1, .slice A0_2 l0_2.length c0_2], .int .u16 a1] rfl (by (try simp only [List.map_toArray, List.map_cons, List.map_nil]); first | done | rfl | (simp only [List.length_drop, List.length_take]; rfl)) ?_; (with_reducible refine (impl_Circuit_on.calls k a0_0 _ _ l0_1 _ _ l0_2 a1 t102 _ ?side1 ?side2 ?side3 ?side4 A3.out).mono ?_); (case side1 => repeat (first | exact (Kd.C_below HR0_1.out HB.out) | (with_reducible refine Kd.C_alloc ?_ _) | (with_reducible refine Kd.C_drewN ?_ _) | (with_reducible refine Kd.C_drew ?_))); (case side2 => exact HC0_1.out); (case side3 => repeat (first | exact (Kd.C_below HR0_2.out HB.out) | (with_reducible refine Kd.C_alloc ?_ _) | (with_reducible refine Kd.C_drewN ?_ _) | (with_reducible refine Kd.C_drew ?_))); (case side4 => exact HC0_2.out); rintro e w6 ⟨v103, rfl, ho0, hb⟩; refine ⟨_, rfl, ?_⟩; have n0_ := Aside0.mk (Kd.R_lower ho0 (below_size (by repeat (first | (with_reducible first | exact HB.out | apply below_alloc | apply pw_below_drewN | apply below_drew1 | refine below_set ?_ GE101.out) | exact HB.out)))); have n1_ := Aside0.mk (blk_below (g := gb101) (o := .cells #[.int .i8 a0_0, .slice A0_1 l0_1.length c0_1, .slice A0_2 l0_2.length c0_2] 30 (0, 0)) (by (with_reducible repeat (first | refine blk_drewN ?_ _ | refine blk_drew ?_ | refine blk_alloc ?_ _)); exact BK101.out) hb); have n2_ := Aside0.mk (below_step (by repeat (first | (with_reducible first | exact HB.out | apply below_alloc | apply pw_below_drewN | apply below_drew1 | refine below_set ?_ GE101.out) | exact HB.out)) hb); clear BK101; clear HB; have HO104 := n0_; have BK101 := n1_; have HB := n2_; clear n0_ n1_ n2_; (try clear hb); (try clear hb2); (try clear hk); (try clear hi); (try clear ho0); have hcz7_0 : w6.cell? ⟨gb101, 0, none⟩ = some (.int .i8 a0_0) := (blk_cell BK101.out 0).trans rfl; have hcz7_1 : w6.cell? ⟨gb101, 1, none⟩ = some (.slice A0_1 l0_1.length c0_1) := (blk_cell BK101.out 1).trans rfl; have hcz7_2 : w6.cell? ⟨gb101, 2, none⟩ = some (.slice A0_2 l0_2.length c0_2) := (blk_cell BK101.out 2).trans rfl; have hfz7_0 := blk_frozen BK101.out 0; have hfz7_1 := blk_frozen BK101.out 1; have hfz7_2 := blk_frozen BK101.out 2))
  go_loopg [6, 15] k (fun kq v6 v15 w' => ∃ (x6_1 : Int) (x15_1 : Int), v6 = .int .u16 x6_1 ∧ v15 = .int .i64 x15_1 ∧ Aside0 (impl_Circuit_run.l0 kq t102 x6_1 l0_2 (l0_2.length : Int) x15_1 = some r) ∧ Aside0 (kq ≤ k) ∧ Aside0 (Kd.R Kd.bool 4 w' w.heap.size (fun _ => True) v103 t102) ∧ Aside0 (w'.heap[gb101]? = some (.cells #[.int .i8 a0_0, (.slice A0_1 l0_1.length c0_1), (.slice A0_2 l0_2.length c0_2)] 30 (0, 0))) ∧ Aside0 (Below w.heap.size w w'))
  case atStart => exact ⟨(0), (0), (by first | rfl | (simp; done) | (simp [*]; done)), (by first | rfl | (simp; done) | (simp [*]; done)), H', ⟨Nat.le_refl _⟩, ⟨by (with_reducible repeat (first | apply Kd.R_alloc | apply Kd.R_drewN | apply Kd.R_drew)); exact HO104.out⟩, ⟨by (with_reducible repeat (first | refine blk_drewN ?_ _ | refine blk_drew ?_ | refine blk_alloc ?_ _)); exact BK101.out⟩, ⟨by repeat (first | (with_reducible first | exact HB.out | apply below_alloc | apply pw_below_drewN | apply below_drew1 | refine below_set ?_ GE101.out) | exact HB.out)⟩⟩
  case round =>
    clear H'
    try clear c1
    try clear p2
    try clear hcz5_0
    try clear hcz5_1
    try clear hcz5_2
    try clear hcz7_0
    try clear hcz7_1
    try clear hcz7_2
    try clear hfz5_0
    try clear hfz5_1
    try clear hfz5_2
    try clear hfz7_0
    try clear hfz7_1
    try clear hfz7_2
    obtain ⟨x6_1, x15_1, rfl, rfl, HA, HK1, HO_5, BK101, HB⟩ := hrel
    cases gk with
    | zero => exact absurd HA.out (by simp [impl_Circuit_run.l0])
    | succ k1 =>
      have H := HA.out
      clear HA
      simp only [impl_Circuit_run.l0] at H
      by_cases c8 : x15_1 < (l0_2.length : Int)
      · rw [if_pos c8] at H
        have c8b0 : decide (x15_1 < (l0_2.length : Int)) = true := decide_eq_true c8
        clear c8
        by_cases c9 : 0 ≤ x15_1
        · rw [if_pos c9] at H
          have c9b0 : decide (0 ≤ x15_1) = true := decide_eq_true c9
          clear c9
          by_cases c10 : x15_1 < (l0_2.length : Int)
          · rw [if_pos c10] at H
            have c10b0 : decide (x15_1 < (l0_2.length : Int)) = true := decide_eq_true c10
            clear c10
            by_cases c11 : 0 ≤ (rd l0_2 x15_1)
            · rw [if_pos c11] at H
              have c11b0 : decide (0 ≤ (rd l0_2 x15_1)) = true := decide_eq_true c11
              clear c11
              by_cases c12 : (rd l0_2 x15_1) < (t102.length : Int)
              · rw [if_pos c12] at H
                have c12b0 : decide ((rd l0_2 x15_1) < (t102.length : Int)) = true := decide_eq_true c12
                clear c12
                obtain ⟨bq13, hbq13⟩ : ∃ b_ : Bool, b_ = (rdOf false t102 (rd l0_2 x15_1)) := ⟨_, rfl⟩
                replace H : (if bq13 = true then (impl_Circuit_run.l0 k1 t102 (Go.bits .or .u16 x6_1 (shl .u16 1 x15_1)) l0_2 (l0_2.length : Int) (wrap64 (x15_1 + 1))) else (impl_Circuit_run.l0 k1 t102 x6_1 l0_2 (l0_2.length : Int) (wrap64 (x15_1 + 1)))) = some r := by rw [← hbq13] at H; exact H
                have Nbq13 := Aside0.mk hbq13
                clear hbq13
                by_cases c14 : bq13 = true
                · subst c14
                  have H1 : (impl_Circuit_run.l0 k1 t102 (Go.bits .or .u16 x6_1 (shl .u16 1 x15_1)) l0_2 (l0_2.length : Int) (wrap64 (x15_1 + 1))) = some r := by rw [if_pos rfl] at H; exact H
                  clear H
                  have H := H1
                  clear H1
                  have c15b0 := eq_true (of_decide_eq_true (by first | (with_reducible assumption) | assumption) : 0 ≤ x15_1)
                  obtain ⟨ji16, hji16⟩ : ∃ j_ : Int, (shl .u16 1 x15_1) = j_ := ⟨_, rfl⟩
                  replace H : (impl_Circuit_run.l0 k1 t102 (Go.bits .or .u16 x6_1 (ji16)) l0_2 (l0_2.length : Int) (wrap64 (x15_1 + 1))) = some r := by first | (rw [hji16] at H; exact H) | (simp only [hji16] at H ⊢; exact H)
                  have hji16_ : (IntKind.u16.wrap (1 * 2 ^ min x15_1.toNat 16)) = ji16 := hji16
                  have hji16z : x15_1 ≤ 16 → (IntKind.u16.wrap (1 * 2 ^ x15_1.toNat)) = ji16 := shl_small hji16
                  have hji16u : (IntKind.u16.wrap (2 ^ min x15_1.toNat 16)) = ji16 := by have h_ := hji16_; rw [Int.one_mul] at h_; exact h_
                  have hji16v : x15_1 ≤ 16 → (IntKind.u16.wrap (2 ^ x15_1.toNat)) = ji16 := fun hle_ => by have h_ := hji16z hle_; rw [Int.one_mul] at h_; exact h_
                  have H' := Aside0.mk H
                  clear H
                  have p105 : 0 ≤ (x15_1 : Int) := of_decide_eq_true (by first | (with_reducible assumption) | assumption)
                  have q105 : x15_1 < (l0_2.length : Int) := of_decide_eq_true (by first | (with_reducible assumption) | assumption)
                  obtain ⟨ad105, e105, hx105_0⟩ := Kd.at_int HR0_2.out x15_1 p105 q105
                  cases e105
                  replace hx105_0 := (HB.out.cell (World.block_lt_of_cell? w _ hx105_0)).trans hx105_0
                  replace p105 := eq_true p105
                  replace q105 := eq_true q105
                  obtain ⟨Ao17, co17, eo17⟩ := Kd.R_slice HO_5.out
                  subst eo17
                  have p106 : 0 ≤ ((rd l0_2 x15_1) : Int) := of_decide_eq_true (by first | (with_reducible assumption) | assumption)
                  have q106 : (rd l0_2 x15_1) < (t102.length : Int) := of_decide_eq_true (by first | (with_reducible assumption) | assumption)
                  obtain ⟨ad106, e106, hx106_0⟩ := Kd.at_bool (Kd.R_reads' HO_5.out).2.2 (rd l0_2 x15_1) p106 q106
                  (try rw [← Nbq13.out] at hx106_0)
                  cases e106
                  replace p106 := eq_true p106
                  replace q106 := eq_true q106
                  go_wp2
                  go_roundg k1
                  case measure => have := HK1.out; omega
                  case rel => exact ⟨(Go.bits .or .u16 x6_1 (ji16)), (wrap64 (x15_1 + 1)), (by first | rfl | (simp; done) | (simp only [← hji16] <;> (first | rfl | simp)) | (simp [*]; done)), (by first | rfl | (simp; done) | (simp [*]; done)), H', ⟨by have := HK1.out; omega⟩, ⟨by (with_reducible repeat (first | apply Kd.R_alloc | apply Kd.R_drewN | apply Kd.R_drew)); exact HO_5.out⟩, ⟨by (with_reducible repeat (first | refine blk_drewN ?_ _ | refine blk_drew ?_ | refine blk_alloc ?_ _)); exact BK101.out⟩, ⟨by repeat (first | (with_reducible first | exact HB.out | apply below_alloc | apply pw_below_drewN | apply below_drew1 | refine below_set ?_ GE101.out) | exact HB.out)⟩⟩
                · replace c14 := Bool.eq_false_iff.mpr c14
                  subst c14
                  have H1 : (impl_Circuit_run.l0 k1 t102 x6_1 l0_2 (l0_2.length : Int) (wrap64 (x15_1 + 1))) = some r := by rw [if_neg (show ¬ (false = true) by decide)] at H; exact H
                  clear H
                  have H := H1
                  clear H1
                  have H' := Aside0.mk H
                  clear H
                  have p105 : 0 ≤ (x15_1 : Int) := of_decide_eq_true (by first | (with_reducible assumption) | assumption)
                  have q105 : x15_1 < (l0_2.length : Int) := of_decide_eq_true (by first | (with_reducible assumption) | assumption)
                  obtain ⟨ad105, e105, hx105_0⟩ := Kd.at_int HR0_2.out x15_1 p105 q105
                  cases e105
                  replace hx105_0 := (HB.out.cell (World.block_lt_of_cell? w _ hx105_0)).trans hx105_0
                  replace p105 := eq_true p105
                  replace q105 := eq_true q105
                  obtain ⟨Ao18, co18, eo18⟩ := Kd.R_slice HO_5.out
                  subst eo18
                  have p106 : 0 ≤ ((rd l0_2 x15_1) : Int) := of_decide_eq_true (by first | (with_reducible assumption) | assumption)
                  have q106 : (rd l0_2 x15_1) < (t102.length : Int) := of_decide_eq_true (by first | (with_reducible assumption) | assumption)
                  obtain ⟨ad106, e106, hx106_0⟩ := Kd.at_bool (Kd.R_reads' HO_5.out).2.2 (rd l0_2 x15_1) p106 q106
                  (try rw [← Nbq13.out] at hx106_0)
                  cases e106
                  replace p106 := eq_true p106
                  replace q106 := eq_true q106
                  go_wp2
                  go_roundg k1
                  case measure => have := HK1.out; omega
                  case rel => exact ⟨(x6_1), (wrap64 (x15_1 + 1)), (by first | rfl | (simp; done) | (simp [*]; done)), (by first | rfl | (simp; done) | (simp [*]; done)), H', ⟨by have := HK1.out; omega⟩, ⟨by (with_reducible repeat (first | apply Kd.R_alloc | apply Kd.R_drewN | apply Kd.R_drew)); exact HO_5.out⟩, ⟨by (with_reducible repeat (first | refine blk_drewN ?_ _ | refine blk_drew ?_ | refine blk_alloc ?_ _)); exact BK101.out⟩, ⟨by repeat (first | (with_reducible first | exact HB.out | apply below_alloc | apply pw_below_drewN | apply below_drew1 | refine below_set ?_ GE101.out) | exact HB.out)⟩⟩
              · rw [if_neg c12] at H
                exact absurd H (by simp)
            · rw [if_neg c11] at H
              exact absurd H (by simp)
          · rw [if_neg c10] at H
            exact absurd H (by simp)
        · rw [if_neg c9] at H
          exact absurd H (by simp)
      · rw [if_neg c8] at H
        have c8b0 : decide (x15_1 < (l0_2.length : Int)) = false := decide_eq_false c8
        clear c8
        obtain rfl := Option.some.inj H
        go_wp2
        go_ret
        exact ⟨by first | rfl | (simp [errW_none, errW_some] <;> rfl) | (simp [*, errW_none, errW_some] <;> rfl), by repeat (first | (with_reducible first | exact HB.out | apply below_alloc | apply pw_below_drewN | apply below_drew1 | refine below_set ?_ GE101.out) | exact HB.out)⟩
end Go.Proofs.Yteanndgkjoinmaa.X

-- Laid by wip/xprint.py of this session (the kit's print program, with some contracts given by hand). Not trusted: Lean checks it.
namespace Go.Proofs.Yteanndgkjoinmaa.X
open Go.RowKit Go.Proofs.YteanndgkjoinmaaW.PrintWords Go.Proofs.YteanndgkjoinmaaW.PrintLast Go.Proofs.YteanndgkjoinmaaW.PrintMore
attribute [local go_sem] max2_int min2_int max_two min_two max_three min_three max_four min_four
set_option linter.unusedVariables false
set_option linter.unusedSimpArgs false
mutual
def impl_half.j0 : Nat → Int → Int → Bool → Option (Int)
  | 0, _, _, _ => none
  | k + 1, x0, x1, x14 => if x14 = true then (some x0) else (if 0 ≤ (wrap64 (Int.tdiv x1 2)) then ((impl_half.f k (shr .u32 x0 (wrap64 (Int.tdiv x1 2))) (wrap64 (Int.tdiv x1 2))).bind fun t101 => ((impl_half.f k t101 (wrap64 (Int.tdiv x1 2))).bind fun t102 => ((impl_half.f k (Go.bits .and .u32 x0 (((shl .u32 1 (wrap64 (Int.tdiv x1 2))) - 1) % 4294967296)) (wrap64 (Int.tdiv x1 2))).bind fun t103 => (some (Go.bits .or .u32 t102 (shl .u32 (Go.bits .xor .u32 t101 t103) (wrap64 (Int.tdiv x1 2)))))))) else (none))
def impl_half.f : Nat → Int → Int → Option (Int)
  | 0, _, _ => none
  | k + 1, a0, a1 => if a1 = 1 then (impl_half.j0 k a0 a1 true) else (impl_half.j0 k a0 a1 (a0 == 0))
end
theorem impl_half.mono_l : ∀ k, (∀ y0 y1, LeO (impl_half.f k y0 y1) (impl_half.f (k + 1) y0 y1)) ∧ (∀ y0 y1 y2, LeO (impl_half.j0 k y0 y1 y2) (impl_half.j0 (k + 1) y0 y1 y2))
  | 0 => ⟨fun _ _ r h => by simp [impl_half.f] at h, fun _ _ _ r h => by simp [impl_half.j0] at h⟩
  | k + 1 => by
    obtain ⟨ih0, ih1⟩ := impl_half.mono_l k
    refine ⟨?_, ?_⟩
    · intro y0 y1
      unfold impl_half.f
      repeat' first
      | (with_reducible refine LeO.anyO (fun _ => ?_))
      | (with_reducible exact ih0 _ _)
      | (with_reducible exact ih1 _ _ _)
      | (with_reducible exact LeO.refl _)
      | (with_reducible exact LeO.none _)
      | (with_reducible refine LeO.ite ?_ ?_)
      | (with_reducible refine LeO.bind ?_ (fun _ => ?_))
      | exact ih0 _ _
      | exact ih1 _ _ _
      | exact LeO.none _
      | refine LeO.ite ?_ ?_
      | refine LeO.bind ?_ (fun _ => ?_)
    · intro y0 y1 y2
      unfold impl_half.j0
      repeat' first
      | (with_reducible refine LeO.anyO (fun _ => ?_))
      | (with_reducible exact ih0 _ _)
      | (with_reducible exact ih1 _ _ _)
      | (with_reducible exact LeO.refl _)
      | (with_reducible exact LeO.none _)
      | (with_reducible refine LeO.ite ?_ ?_)
      | (with_reducible refine LeO.bind ?_ (fun _ => ?_))
      | exact ih0 _ _
      | exact ih1 _ _ _
      | exact LeO.none _
      | refine LeO.ite ?_ ?_
      | refine LeO.bind ?_ (fun _ => ?_)
theorem impl_half.mono : ∀ a0 a1 k, LeO (impl_half.f k a0 a1) (impl_half.f (k + 1) a0 a1) := by
  intro a0 a1 k
  obtain ⟨ih0, ih1⟩ := impl_half.mono_l k
  exact ih0 a0 a1
set_option maxHeartbeats 8000000 in
set_option maxRecDepth 100000 in
theorem impl_half.calls (k : Nat) : ∀ (a0 : Int) (a1 : Int) (r : Int) (w : World) (h : impl_half.f k a0 a1 = some r),
    Calls Try.prog 104 #[.int .u32 a0, .int .i64 a1] w fun e w' => e = .returned (.int .u32 r) ∧ Drawn0 w w' := by
  induction k using Nat.strongRecOn with
  | _ k ih =>
  intro a0 a1 r w h
  cases k with
  | zero => exact absurd h (by simp [impl_half.f])
  | succ k =>
  simp only [impl_half.f] at h
  have H : (if a1 = 1 then (impl_half.j0 k a0 a1 true) else (impl_half.j0 k a0 a1 (a0 == 0))) = some r := h
  clear h
  have HC3 := Aside0.mk H
  clear H
  go_enter Try.func104, Try.ntmps104
  go_upto_region 1 with (fail)
  repeat (go_quiet (fail); go_upto_region 1 with (fail))
  go_cut [14] (fun v14 wc => ∃ (kq : Nat) (x14_2 : Bool), v14 = .bool x14_2 ∧ Aside0 (impl_half.j0 kq a0 a1 x14_2 = some r) ∧ Aside0 (kq ≤ k) ∧ Drawn0 w wc)
  case first =>
    have H := HC3.out
    clear HC3
    by_cases c4 : a1 = 1
    · rw [if_pos c4] at H
      have c4b0 : (a1 == 1) = true := beq_iff_eq.mpr c4
      have c4b1 : (a1 != 1) = false := bne_eq_false_iff_eq.mpr c4
      clear c4
      (first | rw [c4b0] | (simp only [i64_w, i32_w]; rw [c4b0]) | skip)
      have H' := Aside0.mk H
      clear H
      go_wp2
      repeat (go_quiet (fail); try go_wp2)
      go_meet
      case rel => exact ⟨_, (true), (by first | rfl | (simp; done) | (simp [*]; done)), H', ⟨by first | omega | exact Nat.le_refl _⟩, by repeat (first | exact Drawn0.refl _ | apply Drawn0.step)⟩
    · rw [if_neg c4] at H
      have c4b0 : (a1 == 1) = false := beq_eq_false_iff_ne.mpr c4
      have c4b1 : (a1 != 1) = true := bne_iff_ne.mpr c4
      (first | rw [c4b0] | (simp only [i64_w, i32_w]; rw [c4b0]) | skip)
      have H' := Aside0.mk H
      clear H
      go_wp2
      repeat (go_quiet (fail); try go_wp2)
      go_meet
      case rel => exact ⟨_, ((a0 == 0)), (by first | rfl | (simp; done) | (simp [*]; done)), H', ⟨by first | omega | exact Nat.le_refl _⟩, by repeat (first | exact Drawn0.refl _ | apply Drawn0.step)⟩
  case rest =>
    clear HC3
    try clear c1
    try clear p2
    try clear c4
    try clear c4b0
    try clear c4b1
    obtain ⟨kq, x14_2, rfl, HA, HJ2, ⟨mc2, rfl⟩⟩ := hcut
    cases kq with
    | zero => exact absurd HA.out (by simp [impl_half.j0])
    | succ kj2 =>
      have H := HA.out
      clear HA
      simp only [impl_half.j0] at H
      by_cases c5 : x14_2 = true
      · subst c5
        have H1 : (some a0) = some r := by rw [if_pos rfl] at H; exact H
        clear H
        have H := H1
        clear H1
        obtain rfl := Option.some.inj H
        go_wp2
        repeat (go_quiet (fail); try go_wp2)
        go_ret
        exact ⟨by first | rfl | (simp; done) | (simp [*]; done), by repeat (first | exact Drawn0.refl _ | apply Drawn0.step)⟩
      · replace c5 := Bool.eq_false_iff.mpr c5
        subst c5
        have H1 : (if 0 ≤ (wrap64 (Int.tdiv a1 2)) then ((impl_half.f kj2 (shr .u32 a0 (wrap64 (Int.tdiv a1 2))) (wrap64 (Int.tdiv a1 2))).bind fun t101 => ((impl_half.f kj2 t101 (wrap64 (Int.tdiv a1 2))).bind fun t102 => ((impl_half.f kj2 (Go.bits .and .u32 a0 (((shl .u32 1 (wrap64 (Int.tdiv a1 2))) - 1) % 4294967296)) (wrap64 (Int.tdiv a1 2))).bind fun t103 => (some (Go.bits .or .u32 t102 (shl .u32 (Go.bits .xor .u32 t101 t103) (wrap64 (Int.tdiv a1 2)))))))) else (none)) = some r := by rw [if_neg (show ¬ (false = true) by decide)] at H; exact H
        clear H
        have H := H1
        clear H1
        obtain ⟨ji6, hji6⟩ : ∃ j_ : Int, (wrap64 (Int.tdiv a1 2)) = j_ := ⟨_, rfl⟩
        replace H : (if 0 ≤ (ji6) then ((impl_half.f kj2 (shr .u32 a0 (ji6)) (ji6)).bind fun t101 => ((impl_half.f kj2 t101 (ji6)).bind fun t102 => ((impl_half.f kj2 (Go.bits .and .u32 a0 (((shl .u32 1 (ji6)) - 1) % 4294967296)) (ji6)).bind fun t103 => (some (Go.bits .or .u32 t102 (shl .u32 (Go.bits .xor .u32 t101 t103) (ji6))))))) else (none)) = some r := by first | (rw [hji6] at H; exact H) | (simp only [hji6] at H ⊢; exact H)
        have hji6w : (IntKind.i64.wrap (Int.tdiv a1 2)) = ji6 := (i64_w _).trans hji6
        by_cases c7 : 0 ≤ (ji6)
        · rw [if_pos c7] at H
          have c7b0 := eq_true c7
          have c7b1 : decide (0 ≤ (ji6)) = true := decide_eq_true c7
          clear c7
          obtain ⟨ji8, hji8⟩ : ∃ j_ : Int, (shl .u32 1 (ji6)) = j_ := ⟨_, rfl⟩
          replace H : ((impl_half.f kj2 (shr .u32 a0 (ji6)) (ji6)).bind fun t101 => ((impl_half.f kj2 t101 (ji6)).bind fun t102 => ((impl_half.f kj2 (Go.bits .and .u32 a0 (((ji8) - 1) % 4294967296)) (ji6)).bind fun t103 => (some (Go.bits .or .u32 t102 (shl .u32 (Go.bits .xor .u32 t101 t103) (ji6))))))) = some r := by first | (rw [hji8] at H; exact H) | (simp only [hji8] at H ⊢; exact H)
          have hji8_ : (IntKind.u32.wrap (1 * 2 ^ min (ji6).toNat 32)) = ji8 := hji8
          have hji8z : (ji6) ≤ 32 → (IntKind.u32.wrap (1 * 2 ^ (ji6).toNat)) = ji8 := shl_small hji8
          have hji8u : (IntKind.u32.wrap (2 ^ min (ji6).toNat 32)) = ji8 := by have h_ := hji8_; rw [Int.one_mul] at h_; exact h_
          have hji8v : (ji6) ≤ 32 → (IntKind.u32.wrap (2 ^ (ji6).toNat)) = ji8 := fun hle_ => by have h_ := hji8z hle_; rw [Int.one_mul] at h_; exact h_
          have c9b0 := eq_true (of_decide_eq_true (by first | (with_reducible assumption) | assumption) : 0 ≤ (ji6))
          obtain ⟨ji10, hji10⟩ : ∃ j_ : Int, (shr .u32 a0 (ji6)) = j_ := ⟨_, rfl⟩
          replace H : ((impl_half.f kj2 (ji10) (ji6)).bind fun t101 => ((impl_half.f kj2 t101 (ji6)).bind fun t102 => ((impl_half.f kj2 (Go.bits .and .u32 a0 (((ji8) - 1) % 4294967296)) (ji6)).bind fun t103 => (some (Go.bits .or .u32 t102 (shl .u32 (Go.bits .xor .u32 t101 t103) (ji6))))))) = some r := by first | (rw [hji10] at H; exact H) | (simp only [hji10] at H ⊢; exact H)
          have hji10_ : (a0 / 2 ^ min (ji6).toNat 32) = ji10 := hji10
          have hji10z : (ji6) ≤ 32 → (a0 / 2 ^ (ji6).toNat) = ji10 := shr_small hji10
          replace H := Option.bind_eq_some_iff.mp H
          obtain ⟨t101, A110, H⟩ := H
          replace H : ((impl_half.f kj2 t101 (ji6)).bind fun t102 => ((impl_half.f kj2 (Go.bits .and .u32 a0 (((ji8) - 1) % 4294967296)) (ji6)).bind fun t103 => (some (Go.bits .or .u32 t102 (shl .u32 (Go.bits .xor .u32 t101 t103) (ji6)))))) = some r := H
          have A11 := Aside0.mk A110
          clear A110
          replace H := Option.bind_eq_some_iff.mp H
          obtain ⟨t102, A120, H⟩ := H
          replace H : ((impl_half.f kj2 (Go.bits .and .u32 a0 (((ji8) - 1) % 4294967296)) (ji6)).bind fun t103 => (some (Go.bits .or .u32 t102 (shl .u32 (Go.bits .xor .u32 t101 t103) (ji6))))) = some r := H
          have A12 := Aside0.mk A120
          clear A120
          replace H := Option.bind_eq_some_iff.mp H
          obtain ⟨t103, A130, H⟩ := H
          replace H : (some (Go.bits .or .u32 t102 (shl .u32 (Go.bits .xor .u32 t101 t103) (ji6)))) = some r := H
          have A13 := Aside0.mk A130
          clear A130
          have c14b0 := eq_true (of_decide_eq_true (by first | (with_reducible assumption) | assumption) : 0 ≤ (ji6))
          obtain ⟨ji15, hji15⟩ : ∃ j_ : Int, (shl .u32 (Go.bits .xor .u32 t101 t103) (ji6)) = j_ := ⟨_, rfl⟩
          replace H : (some (Go.bits .or .u32 t102 (ji15))) = some r := by first | (rw [hji15] at H; exact H) | (simp only [hji15] at H ⊢; exact H)
          (try rw [hji15] at A11)
          (try rw [hji15] at A12)
          (try rw [hji15] at A13)
          have hji15_ : (IntKind.u32.wrap ((Go.bits .xor .u32 t101 t103) * 2 ^ min (ji6).toNat 32)) = ji15 := hji15
          have hji15z : (ji6) ≤ 32 → (IntKind.u32.wrap ((Go.bits .xor .u32 t101 t103) * 2 ^ (ji6).toNat)) = ji15 := shl_small hji15
          obtain rfl := Option.some.inj H
          go_wp2_with (first | (go_at_call 104; (with_reducible refine (ih kj2 (by have := HJ2.out; omega) ji10 ji6 t101 _ A11.out).mono ?_); rintro e w' ⟨rfl, ⟨nd, rfl⟩⟩; (try first | exact ⟨rfl, _, World.drewN_drewN _ _ _⟩ | exact ⟨rfl, _, Eq.trans (World.drewN_drewN _ _ _) (congrArg (World.drewN _) (Nat.add_assoc _ _ _))⟩)) | (go_at_call 104; (with_reducible refine (ih kj2 (by have := HJ2.out; omega) t101 ji6 t102 _ A12.out).mono ?_); rintro e w' ⟨rfl, ⟨nd, rfl⟩⟩; (try first | exact ⟨rfl, _, World.drewN_drewN _ _ _⟩ | exact ⟨rfl, _, Eq.trans (World.drewN_drewN _ _ _) (congrArg (World.drewN _) (Nat.add_assoc _ _ _))⟩)) | (go_at_call 104; (with_reducible refine (ih kj2 (by have := HJ2.out; omega) (Go.bits .and .u32 a0 (((ji8) - 1) % 4294967296)) ji6 t103 _ A13.out).mono ?_); rintro e w' ⟨rfl, ⟨nd, rfl⟩⟩; (try first | exact ⟨rfl, _, World.drewN_drewN _ _ _⟩ | exact ⟨rfl, _, Eq.trans (World.drewN_drewN _ _ _) (congrArg (World.drewN _) (Nat.add_assoc _ _ _))⟩)))
          repeat (go_quiet (first | (go_at_call 104; (with_reducible refine (ih kj2 (by have := HJ2.out; omega) ji10 ji6 t101 _ A11.out).mono ?_); rintro e w' ⟨rfl, ⟨nd, rfl⟩⟩; (try first | exact ⟨rfl, _, World.drewN_drewN _ _ _⟩ | exact ⟨rfl, _, Eq.trans (World.drewN_drewN _ _ _) (congrArg (World.drewN _) (Nat.add_assoc _ _ _))⟩)) | (go_at_call 104; (with_reducible refine (ih kj2 (by have := HJ2.out; omega) t101 ji6 t102 _ A12.out).mono ?_); rintro e w' ⟨rfl, ⟨nd, rfl⟩⟩; (try first | exact ⟨rfl, _, World.drewN_drewN _ _ _⟩ | exact ⟨rfl, _, Eq.trans (World.drewN_drewN _ _ _) (congrArg (World.drewN _) (Nat.add_assoc _ _ _))⟩)) | (go_at_call 104; (with_reducible refine (ih kj2 (by have := HJ2.out; omega) (Go.bits .and .u32 a0 (((ji8) - 1) % 4294967296)) ji6 t103 _ A13.out).mono ?_); rintro e w' ⟨rfl, ⟨nd, rfl⟩⟩; (try first | exact ⟨rfl, _, World.drewN_drewN _ _ _⟩ | exact ⟨rfl, _, Eq.trans (World.drewN_drewN _ _ _) (congrArg (World.drewN _) (Nat.add_assoc _ _ _))⟩))); try go_wp2_with (first | (go_at_call 104; (with_reducible refine (ih kj2 (by have := HJ2.out; omega) ji10 ji6 t101 _ A11.out).mono ?_); rintro e w' ⟨rfl, ⟨nd, rfl⟩⟩; (try first | exact ⟨rfl, _, World.drewN_drewN _ _ _⟩ | exact ⟨rfl, _, Eq.trans (World.drewN_drewN _ _ _) (congrArg (World.drewN _) (Nat.add_assoc _ _ _))⟩)) | (go_at_call 104; (with_reducible refine (ih kj2 (by have := HJ2.out; omega) t101 ji6 t102 _ A12.out).mono ?_); rintro e w' ⟨rfl, ⟨nd, rfl⟩⟩; (try first | exact ⟨rfl, _, World.drewN_drewN _ _ _⟩ | exact ⟨rfl, _, Eq.trans (World.drewN_drewN _ _ _) (congrArg (World.drewN _) (Nat.add_assoc _ _ _))⟩)) | (go_at_call 104; (with_reducible refine (ih kj2 (by have := HJ2.out; omega) (Go.bits .and .u32 a0 (((ji8) - 1) % 4294967296)) ji6 t103 _ A13.out).mono ?_); rintro e w' ⟨rfl, ⟨nd, rfl⟩⟩; (try first | exact ⟨rfl, _, World.drewN_drewN _ _ _⟩ | exact ⟨rfl, _, Eq.trans (World.drewN_drewN _ _ _) (congrArg (World.drewN _) (Nat.add_assoc _ _ _))⟩))))
          go_ret
          exact ⟨by first | rfl | (simp; done) | (simp only [← hji6, ← hji8, ← hji10, ← hji15] <;> (first | rfl | simp)) | (simp [*]; done), by repeat (first | exact Drawn0.refl _ | apply Drawn0.step)⟩
        · rw [if_neg c7] at H
          exact absurd H (by simp)
end Go.Proofs.Yteanndgkjoinmaa.X

-- Laid by wip/xprint.py of this session (the kit's print program, with some contracts given by hand). Not trusted: Lean checks it.
namespace Go.Proofs.Yteanndgkjoinmaa.X
open Go.RowKit Go.Proofs.YteanndgkjoinmaaW.PrintWords Go.Proofs.YteanndgkjoinmaaW.PrintLast Go.Proofs.YteanndgkjoinmaaW.PrintMore
attribute [local go_sem] max2_int min2_int max_two min_two max_three min_three max_four min_four
set_option linter.unusedVariables false
set_option linter.unusedSimpArgs false
mutual
def impl_product.j0 : Nat → Int → Int → Int → Bool → Option (Int)
  | 0, _, _, _, _ => none
  | k + 1, x0, x1, x2, x16 => if x16 = true then (some 0) else (if x0 = 1 then (some x1) else (if x1 = 1 then (some x0) else (if 0 ≤ (wrap64 (Int.tdiv x2 2)) then (if (shr .u32 x0 (wrap64 (Int.tdiv x2 2))) = 0 then (impl_product.j1 k (wrap64 (Int.tdiv x2 2)) (Go.bits .and .u32 x0 (((shl .u32 1 (wrap64 (Int.tdiv x2 2))) - 1) % 4294967296)) (shr .u32 x0 (wrap64 (Int.tdiv x2 2))) (Go.bits .and .u32 x1 (((shl .u32 1 (wrap64 (Int.tdiv x2 2))) - 1) % 4294967296)) (shr .u32 x1 (wrap64 (Int.tdiv x2 2))) ((shr .u32 x1 (wrap64 (Int.tdiv x2 2))) == 0)) else (impl_product.j1 k (wrap64 (Int.tdiv x2 2)) (Go.bits .and .u32 x0 (((shl .u32 1 (wrap64 (Int.tdiv x2 2))) - 1) % 4294967296)) (shr .u32 x0 (wrap64 (Int.tdiv x2 2))) (Go.bits .and .u32 x1 (((shl .u32 1 (wrap64 (Int.tdiv x2 2))) - 1) % 4294967296)) (shr .u32 x1 (wrap64 (Int.tdiv x2 2))) false)) else (none))))
def impl_product.j1 : Nat → Int → Int → Int → Int → Int → Bool → Option (Int)
  | 0, _, _, _, _, _, _ => none
  | k + 1, x7, x9, x10, x11, x12, x53 => if x53 = true then ((impl_product.f k x9 x11 x7).bind fun t101 => (some t101)) else ((impl_product.f k x10 x12 x7).bind fun t102 => ((impl_product.f k x9 x11 x7).bind fun t103 => ((impl_product.f k (Go.bits .xor .u32 x9 x10) (Go.bits .xor .u32 x11 x12) x7).bind fun t104 => (if 0 ≤ x7 then ((impl_half.f k t102 x7).bind fun t105 => (some (Go.bits .xor .u32 (Go.bits .or .u32 (shl .u32 (Go.bits .xor .u32 t104 t103) x7) t103) t105))) else (none)))))
def impl_product.f : Nat → Int → Int → Int → Option (Int)
  | 0, _, _, _ => none
  | k + 1, a0, a1, a2 => if a0 = 0 then (impl_product.j0 k a0 a1 a2 true) else (impl_product.j0 k a0 a1 a2 (a1 == 0))
end
theorem impl_product.mono_l : ∀ k, (∀ y0 y1 y2, LeO (impl_product.f k y0 y1 y2) (impl_product.f (k + 1) y0 y1 y2)) ∧ (∀ y0 y1 y2 y3, LeO (impl_product.j0 k y0 y1 y2 y3) (impl_product.j0 (k + 1) y0 y1 y2 y3)) ∧ (∀ y0 y1 y2 y3 y4 y5, LeO (impl_product.j1 k y0 y1 y2 y3 y4 y5) (impl_product.j1 (k + 1) y0 y1 y2 y3 y4 y5))
  | 0 => ⟨fun _ _ _ r h => by simp [impl_product.f] at h, fun _ _ _ _ r h => by simp [impl_product.j0] at h, fun _ _ _ _ _ _ r h => by simp [impl_product.j1] at h⟩
  | k + 1 => by
    obtain ⟨ih0, ih1, ih2⟩ := impl_product.mono_l k
    refine ⟨?_, ?_, ?_⟩
    · intro y0 y1 y2
      unfold impl_product.f
      repeat' first
      | (with_reducible refine LeO.anyO (fun _ => ?_))
      | (with_reducible exact ih0 _ _ _)
      | (with_reducible exact ih1 _ _ _ _)
      | (with_reducible exact ih2 _ _ _ _ _ _)
      | (with_reducible exact impl_half.mono _ _ _)
      | (with_reducible exact LeO.refl _)
      | (with_reducible exact LeO.none _)
      | (with_reducible refine LeO.ite ?_ ?_)
      | (with_reducible refine LeO.bind ?_ (fun _ => ?_))
      | exact ih0 _ _ _
      | exact ih1 _ _ _ _
      | exact ih2 _ _ _ _ _ _
      | exact impl_half.mono _ _ _
      | exact LeO.none _
      | refine LeO.ite ?_ ?_
      | refine LeO.bind ?_ (fun _ => ?_)
    · intro y0 y1 y2 y3
      unfold impl_product.j0
      repeat' first
      | (with_reducible refine LeO.anyO (fun _ => ?_))
      | (with_reducible exact ih0 _ _ _)
      | (with_reducible exact ih1 _ _ _ _)
      | (with_reducible exact ih2 _ _ _ _ _ _)
      | (with_reducible exact impl_half.mono _ _ _)
      | (with_reducible exact LeO.refl _)
      | (with_reducible exact LeO.none _)
      | (with_reducible refine LeO.ite ?_ ?_)
      | (with_reducible refine LeO.bind ?_ (fun _ => ?_))
      | exact ih0 _ _ _
      | exact ih1 _ _ _ _
      | exact ih2 _ _ _ _ _ _
      | exact impl_half.mono _ _ _
      | exact LeO.none _
      | refine LeO.ite ?_ ?_
      | refine LeO.bind ?_ (fun _ => ?_)
    · intro y0 y1 y2 y3 y4 y5
      unfold impl_product.j1
      repeat' first
      | (with_reducible refine LeO.anyO (fun _ => ?_))
      | (with_reducible exact ih0 _ _ _)
      | (with_reducible exact ih1 _ _ _ _)
      | (with_reducible exact ih2 _ _ _ _ _ _)
      | (with_reducible exact impl_half.mono _ _ _)
      | (with_reducible exact LeO.refl _)
      | (with_reducible exact LeO.none _)
      | (with_reducible refine LeO.ite ?_ ?_)
      | (with_reducible refine LeO.bind ?_ (fun _ => ?_))
      | exact ih0 _ _ _
      | exact ih1 _ _ _ _
      | exact ih2 _ _ _ _ _ _
      | exact impl_half.mono _ _ _
      | exact LeO.none _
      | refine LeO.ite ?_ ?_
      | refine LeO.bind ?_ (fun _ => ?_)
theorem impl_product.mono : ∀ a0 a1 a2 k, LeO (impl_product.f k a0 a1 a2) (impl_product.f (k + 1) a0 a1 a2) := by
  intro a0 a1 a2 k
  obtain ⟨ih0, ih1, ih2⟩ := impl_product.mono_l k
  exact ih0 a0 a1 a2
set_option maxHeartbeats 8000000 in
set_option maxRecDepth 100000 in
theorem impl_product.calls (k : Nat) : ∀ (a0 : Int) (a1 : Int) (a2 : Int) (r : Int) (w : World) (h : impl_product.f k a0 a1 a2 = some r),
    Calls Try.prog 102 #[.int .u32 a0, .int .u32 a1, .int .i64 a2] w fun e w' => e = .returned (.int .u32 r) ∧ Drawn0 w w' := by
  induction k using Nat.strongRecOn with
  | _ k ih =>
  intro a0 a1 a2 r w h
  cases k with
  | zero => exact absurd h (by simp [impl_product.f])
  | succ k =>
  simp only [impl_product.f] at h
  have H : (if a0 = 0 then (impl_product.j0 k a0 a1 a2 true) else (impl_product.j0 k a0 a1 a2 (a1 == 0))) = some r := h
  clear h
  have HC4 := Aside0.mk H
  clear H
  go_enter Try.func102, Try.ntmps102
  go_upto_region 1 with (fail)
  repeat (go_quiet (fail); go_upto_region 1 with (fail))
  go_cut [16] (fun v16 wc => ∃ (kq : Nat) (x16_3 : Bool), v16 = .bool x16_3 ∧ Aside0 (impl_product.j0 kq a0 a1 a2 x16_3 = some r) ∧ Aside0 (kq ≤ k) ∧ Drawn0 w wc)
  case first =>
    have H := HC4.out
    clear HC4
    by_cases c5 : a0 = 0
    · rw [if_pos c5] at H
      have c5b0 : (a0 == 0) = true := beq_iff_eq.mpr c5
      have c5b1 : (a0 != 0) = false := bne_eq_false_iff_eq.mpr c5
      clear c5
      (first | rw [c5b0] | (simp only [i64_w, i32_w]; rw [c5b0]) | skip)
      have H' := Aside0.mk H
      clear H
      go_wp2
      repeat (go_quiet (fail); try go_wp2)
      go_meet
      case rel => exact ⟨_, (true), (by first | rfl | (simp; done) | (simp [*]; done)), H', ⟨by first | omega | exact Nat.le_refl _⟩, by repeat (first | exact Drawn0.refl _ | apply Drawn0.step)⟩
    · rw [if_neg c5] at H
      have c5b0 : (a0 == 0) = false := beq_eq_false_iff_ne.mpr c5
      have c5b1 : (a0 != 0) = true := bne_iff_ne.mpr c5
      (first | rw [c5b0] | (simp only [i64_w, i32_w]; rw [c5b0]) | skip)
      have H' := Aside0.mk H
      clear H
      go_wp2
      repeat (go_quiet (fail); try go_wp2)
      go_meet
      case rel => exact ⟨_, ((a1 == 0)), (by first | rfl | (simp; done) | (simp [*]; done)), H', ⟨by first | omega | exact Nat.le_refl _⟩, by repeat (first | exact Drawn0.refl _ | apply Drawn0.step)⟩
  case rest =>
    clear HC4
    try clear c1
    try clear p2
    try clear c5
    try clear c5b0
    try clear c5b1
    obtain ⟨kq, x16_3, rfl, HA, HJ3, ⟨mc3, rfl⟩⟩ := hcut
    cases kq with
    | zero => exact absurd HA.out (by simp [impl_product.j0])
    | succ kj3 =>
      have H := HA.out
      clear HA
      simp only [impl_product.j0] at H
      by_cases c6 : x16_3 = true
      · subst c6
        have H1 : (some 0) = some r := by rw [if_pos rfl] at H; exact H
        clear H
        have H := H1
        clear H1
        obtain rfl := Option.some.inj H
        go_wp2
        repeat (go_quiet (fail); try go_wp2)
        go_ret
        exact ⟨by first | rfl | (simp; done) | (simp [*]; done), by repeat (first | exact Drawn0.refl _ | apply Drawn0.step)⟩
      · replace c6 := Bool.eq_false_iff.mpr c6
        subst c6
        have H1 : (if a0 = 1 then (some a1) else (if a1 = 1 then (some a0) else (if 0 ≤ (wrap64 (Int.tdiv a2 2)) then (if (shr .u32 a0 (wrap64 (Int.tdiv a2 2))) = 0 then (impl_product.j1 kj3 (wrap64 (Int.tdiv a2 2)) (Go.bits .and .u32 a0 (((shl .u32 1 (wrap64 (Int.tdiv a2 2))) - 1) % 4294967296)) (shr .u32 a0 (wrap64 (Int.tdiv a2 2))) (Go.bits .and .u32 a1 (((shl .u32 1 (wrap64 (Int.tdiv a2 2))) - 1) % 4294967296)) (shr .u32 a1 (wrap64 (Int.tdiv a2 2))) ((shr .u32 a1 (wrap64 (Int.tdiv a2 2))) == 0)) else (impl_product.j1 kj3 (wrap64 (Int.tdiv a2 2)) (Go.bits .and .u32 a0 (((shl .u32 1 (wrap64 (Int.tdiv a2 2))) - 1) % 4294967296)) (shr .u32 a0 (wrap64 (Int.tdiv a2 2))) (Go.bits .and .u32 a1 (((shl .u32 1 (wrap64 (Int.tdiv a2 2))) - 1) % 4294967296)) (shr .u32 a1 (wrap64 (Int.tdiv a2 2))) false)) else (none)))) = some r := by rw [if_neg (show ¬ (false = true) by decide)] at H; exact H
        clear H
        have H := H1
        clear H1
        by_cases c7 : a0 = 1
        · rw [if_pos c7] at H
          have c7b0 : (a0 == 1) = true := beq_iff_eq.mpr c7
          have c7b1 : (a0 != 1) = false := bne_eq_false_iff_eq.mpr c7
          clear c7
          obtain rfl := Option.some.inj H
          go_wp2
          repeat (go_quiet (fail); try go_wp2)
          go_ret
          exact ⟨by first | rfl | (simp; done) | (simp [*]; done), by repeat (first | exact Drawn0.refl _ | apply Drawn0.step)⟩
        · rw [if_neg c7] at H
          have c7b0 : (a0 == 1) = false := beq_eq_false_iff_ne.mpr c7
          have c7b1 : (a0 != 1) = true := bne_iff_ne.mpr c7
          by_cases c8 : a1 = 1
          · rw [if_pos c8] at H
            have c8b0 : (a1 == 1) = true := beq_iff_eq.mpr c8
            have c8b1 : (a1 != 1) = false := bne_eq_false_iff_eq.mpr c8
            clear c8
            obtain rfl := Option.some.inj H
            go_wp2
            repeat (go_quiet (fail); try go_wp2)
            go_ret
            exact ⟨by first | rfl | (simp; done) | (simp [*]; done), by repeat (first | exact Drawn0.refl _ | apply Drawn0.step)⟩
          · rw [if_neg c8] at H
            have c8b0 : (a1 == 1) = false := beq_eq_false_iff_ne.mpr c8
            have c8b1 : (a1 != 1) = true := bne_iff_ne.mpr c8
            obtain ⟨ji9, hji9⟩ : ∃ j_ : Int, (wrap64 (Int.tdiv a2 2)) = j_ := ⟨_, rfl⟩
            replace H : (if 0 ≤ (ji9) then (if (shr .u32 a0 (ji9)) = 0 then (impl_product.j1 kj3 ji9 (Go.bits .and .u32 a0 (((shl .u32 1 (ji9)) - 1) % 4294967296)) (shr .u32 a0 (ji9)) (Go.bits .and .u32 a1 (((shl .u32 1 (ji9)) - 1) % 4294967296)) (shr .u32 a1 (ji9)) ((shr .u32 a1 (ji9)) == 0)) else (impl_product.j1 kj3 ji9 (Go.bits .and .u32 a0 (((shl .u32 1 (ji9)) - 1) % 4294967296)) (shr .u32 a0 (ji9)) (Go.bits .and .u32 a1 (((shl .u32 1 (ji9)) - 1) % 4294967296)) (shr .u32 a1 (ji9)) false)) else (none)) = some r := by first | (rw [hji9] at H; exact H) | (simp only [hji9] at H ⊢; exact H)
            have hji9w : (IntKind.i64.wrap (Int.tdiv a2 2)) = ji9 := (i64_w _).trans hji9
            by_cases c10 : 0 ≤ (ji9)
            · rw [if_pos c10] at H
              have c10b0 := eq_true c10
              have c10b1 : decide (0 ≤ (ji9)) = true := decide_eq_true c10
              clear c10
              obtain ⟨ji11, hji11⟩ : ∃ j_ : Int, (shl .u32 1 (ji9)) = j_ := ⟨_, rfl⟩
              replace H : (if (shr .u32 a0 (ji9)) = 0 then (impl_product.j1 kj3 ji9 (Go.bits .and .u32 a0 (((ji11) - 1) % 4294967296)) (shr .u32 a0 (ji9)) (Go.bits .and .u32 a1 (((ji11) - 1) % 4294967296)) (shr .u32 a1 (ji9)) ((shr .u32 a1 (ji9)) == 0)) else (impl_product.j1 kj3 ji9 (Go.bits .and .u32 a0 (((ji11) - 1) % 4294967296)) (shr .u32 a0 (ji9)) (Go.bits .and .u32 a1 (((ji11) - 1) % 4294967296)) (shr .u32 a1 (ji9)) false)) = some r := by first | (rw [hji11] at H; exact H) | (simp only [hji11] at H ⊢; exact H)
              have hji11_ : (IntKind.u32.wrap (1 * 2 ^ min (ji9).toNat 32)) = ji11 := hji11
              have hji11z : (ji9) ≤ 32 → (IntKind.u32.wrap (1 * 2 ^ (ji9).toNat)) = ji11 := shl_small hji11
              have hji11u : (IntKind.u32.wrap (2 ^ min (ji9).toNat 32)) = ji11 := by have h_ := hji11_; rw [Int.one_mul] at h_; exact h_
              have hji11v : (ji9) ≤ 32 → (IntKind.u32.wrap (2 ^ (ji9).toNat)) = ji11 := fun hle_ => by have h_ := hji11z hle_; rw [Int.one_mul] at h_; exact h_
              have c12b0 := eq_true (of_decide_eq_true (by first | (with_reducible assumption) | assumption) : 0 ≤ (ji9))
              obtain ⟨ji13, hji13⟩ : ∃ j_ : Int, (shr .u32 a0 (ji9)) = j_ := ⟨_, rfl⟩
              replace H : (if (ji13) = 0 then (impl_product.j1 kj3 ji9 (Go.bits .and .u32 a0 (((ji11) - 1) % 4294967296)) ji13 (Go.bits .and .u32 a1 (((ji11) - 1) % 4294967296)) (shr .u32 a1 (ji9)) ((shr .u32 a1 (ji9)) == 0)) else (impl_product.j1 kj3 ji9 (Go.bits .and .u32 a0 (((ji11) - 1) % 4294967296)) ji13 (Go.bits .and .u32 a1 (((ji11) - 1) % 4294967296)) (shr .u32 a1 (ji9)) false)) = some r := by first | (rw [hji13] at H; exact H) | (simp only [hji13] at H ⊢; exact H)
              have hji13_ : (a0 / 2 ^ min (ji9).toNat 32) = ji13 := hji13
              have hji13z : (ji9) ≤ 32 → (a0 / 2 ^ (ji9).toNat) = ji13 := shr_small hji13
              have c14b0 := eq_true (of_decide_eq_true (by first | (with_reducible assumption) | assumption) : 0 ≤ (ji9))
              obtain ⟨ji15, hji15⟩ : ∃ j_ : Int, (shr .u32 a1 (ji9)) = j_ := ⟨_, rfl⟩
              replace H : (if (ji13) = 0 then (impl_product.j1 kj3 ji9 (Go.bits .and .u32 a0 (((ji11) - 1) % 4294967296)) ji13 (Go.bits .and .u32 a1 (((ji11) - 1) % 4294967296)) ji15 ((ji15) == 0)) else (impl_product.j1 kj3 ji9 (Go.bits .and .u32 a0 (((ji11) - 1) % 4294967296)) ji13 (Go.bits .and .u32 a1 (((ji11) - 1) % 4294967296)) ji15 false)) = some r := by first | (rw [hji15] at H; exact H) | (simp only [hji15] at H ⊢; exact H)
              have hji15_ : (a1 / 2 ^ min (ji9).toNat 32) = ji15 := hji15
              have hji15z : (ji9) ≤ 32 → (a1 / 2 ^ (ji9).toNat) = ji15 := shr_small hji15
              have HC16 := Aside0.mk H
              clear H
              go_upto_region 10 with (fail)
              repeat (go_quiet (fail); go_upto_region 10 with (fail))
              go_cut [53] (fun v53 wc => ∃ (kq : Nat) (x53_15 : Bool), v53 = .bool x53_15 ∧ Aside0 (impl_product.j1 kq ji9 (Go.bits .and .u32 a0 (((ji11) - 1) % 4294967296)) ji13 (Go.bits .and .u32 a1 (((ji11) - 1) % 4294967296)) ji15 x53_15 = some r) ∧ Aside0 (kq ≤ kj3) ∧ Drawn0 w wc)
              case first =>
                have H := HC16.out
                clear HC16
                by_cases c17 : (ji13) = 0
                · rw [if_pos c17] at H
                  have c17b0 : ((ji13) == 0) = true := beq_iff_eq.mpr c17
                  have c17b1 : ((ji13) != 0) = false := bne_eq_false_iff_eq.mpr c17
                  clear c17
                  (first | rw [c17b0] | (simp only [i64_w, i32_w]; rw [c17b0]) | skip)
                  have H' := Aside0.mk H
                  clear H
                  go_wp2
                  repeat (go_quiet (fail); try go_wp2)
                  go_meet
                  case rel => exact ⟨_, (((ji15) == 0)), (by first | rfl | (simp; done) | (simp only [← hji15] <;> (first | rfl | simp)) | (simp [*]; done)), H', ⟨by have := HJ3.out; first | omega | exact Nat.le_refl _⟩, by repeat (first | exact Drawn0.refl _ | apply Drawn0.step)⟩
                · rw [if_neg c17] at H
                  have c17b0 : ((ji13) == 0) = false := beq_eq_false_iff_ne.mpr c17
                  have c17b1 : ((ji13) != 0) = true := bne_iff_ne.mpr c17
                  (first | rw [c17b0] | (simp only [i64_w, i32_w]; rw [c17b0]) | skip)
                  have H' := Aside0.mk H
                  clear H
                  go_wp2
                  repeat (go_quiet (fail); try go_wp2)
                  go_meet
                  case rel => exact ⟨_, (false), (by first | rfl | (simp; done) | (simp [*]; done)), H', ⟨by have := HJ3.out; first | omega | exact Nat.le_refl _⟩, by repeat (first | exact Drawn0.refl _ | apply Drawn0.step)⟩
              case rest =>
                clear HC16
                try clear c1
                try clear p2
                try clear c3
                try clear c5
                try clear c5b0
                try clear c5b1
                try clear c6
                try clear p6
                try clear c7
                try clear c7b0
                try clear c7b1
                try clear c8
                try clear c8b0
                try clear c8b1
                try clear c10
                try clear c10b0
                try clear c10b1
                try clear c12
                try clear c12b0
                try clear c14
                try clear c14b0
                try clear c17
                try clear c17b0
                try clear c17b1
                try clear p2
                obtain ⟨kq, x53_15, rfl, HA, HJ15, ⟨mc15, rfl⟩⟩ := hcut
                cases kq with
                | zero => exact absurd HA.out (by simp [impl_product.j1])
                | succ kj15 =>
                  have H := HA.out
                  clear HA
                  simp only [impl_product.j1] at H
                  by_cases c18 : x53_15 = true
                  · subst c18
                    have H1 : ((impl_product.f kj15 (Go.bits .and .u32 a0 (((ji11) - 1) % 4294967296)) (Go.bits .and .u32 a1 (((ji11) - 1) % 4294967296)) ji9).bind fun t101 => (some t101)) = some r := by rw [if_pos rfl] at H; exact H
                    clear H
                    have H := H1
                    clear H1
                    replace H := Option.bind_eq_some_iff.mp H
                    obtain ⟨t101, A190, H⟩ := H
                    replace H : (some t101) = some r := H
                    have A19 := Aside0.mk A190
                    clear A190
                    obtain rfl := Option.some.inj H
                    go_wp2_with (first | (go_at_call 102; (with_reducible refine (ih kj15 (by have := HJ3.out; have := HJ15.out; omega) (Go.bits .and .u32 a0 (((ji11) - 1) % 4294967296)) (Go.bits .and .u32 a1 (((ji11) - 1) % 4294967296)) ji9 t101 _ A19.out).mono ?_); rintro e w' ⟨rfl, ⟨nd, rfl⟩⟩; (try first | exact ⟨rfl, _, World.drewN_drewN _ _ _⟩ | exact ⟨rfl, _, Eq.trans (World.drewN_drewN _ _ _) (congrArg (World.drewN _) (Nat.add_assoc _ _ _))⟩)))
                    repeat (go_quiet (first | (go_at_call 102; (with_reducible refine (ih kj15 (by have := HJ3.out; have := HJ15.out; omega) (Go.bits .and .u32 a0 (((ji11) - 1) % 4294967296)) (Go.bits .and .u32 a1 (((ji11) - 1) % 4294967296)) ji9 t101 _ A19.out).mono ?_); rintro e w' ⟨rfl, ⟨nd, rfl⟩⟩; (try first | exact ⟨rfl, _, World.drewN_drewN _ _ _⟩ | exact ⟨rfl, _, Eq.trans (World.drewN_drewN _ _ _) (congrArg (World.drewN _) (Nat.add_assoc _ _ _))⟩))); try go_wp2_with (first | (go_at_call 102; (with_reducible refine (ih kj15 (by have := HJ3.out; have := HJ15.out; omega) (Go.bits .and .u32 a0 (((ji11) - 1) % 4294967296)) (Go.bits .and .u32 a1 (((ji11) - 1) % 4294967296)) ji9 t101 _ A19.out).mono ?_); rintro e w' ⟨rfl, ⟨nd, rfl⟩⟩; (try first | exact ⟨rfl, _, World.drewN_drewN _ _ _⟩ | exact ⟨rfl, _, Eq.trans (World.drewN_drewN _ _ _) (congrArg (World.drewN _) (Nat.add_assoc _ _ _))⟩))))
                    go_ret
                    exact ⟨by first | rfl | (simp; done) | (simp only [← hji9, ← hji11, ← hji13, ← hji15] <;> (first | rfl | simp)) | (simp [*]; done), by repeat (first | exact Drawn0.refl _ | apply Drawn0.step)⟩
                  · replace c18 := Bool.eq_false_iff.mpr c18
                    subst c18
                    have H1 : ((impl_product.f kj15 ji13 ji15 ji9).bind fun t102 => ((impl_product.f kj15 (Go.bits .and .u32 a0 (((ji11) - 1) % 4294967296)) (Go.bits .and .u32 a1 (((ji11) - 1) % 4294967296)) ji9).bind fun t103 => ((impl_product.f kj15 (Go.bits .xor .u32 (Go.bits .and .u32 a0 (((ji11) - 1) % 4294967296)) ji13) (Go.bits .xor .u32 (Go.bits .and .u32 a1 (((ji11) - 1) % 4294967296)) ji15) ji9).bind fun t104 => (if 0 ≤ ji9 then ((impl_half.f kj15 t102 ji9).bind fun t105 => (some (Go.bits .xor .u32 (Go.bits .or .u32 (shl .u32 (Go.bits .xor .u32 t104 t103) ji9) t103) t105))) else (none))))) = some r := by rw [if_neg (show ¬ (false = true) by decide)] at H; exact H
                    clear H
                    have H := H1
                    clear H1
                    replace H := Option.bind_eq_some_iff.mp H
                    obtain ⟨t102, A200, H⟩ := H
                    replace H : ((impl_product.f kj15 (Go.bits .and .u32 a0 (((ji11) - 1) % 4294967296)) (Go.bits .and .u32 a1 (((ji11) - 1) % 4294967296)) ji9).bind fun t103 => ((impl_product.f kj15 (Go.bits .xor .u32 (Go.bits .and .u32 a0 (((ji11) - 1) % 4294967296)) ji13) (Go.bits .xor .u32 (Go.bits .and .u32 a1 (((ji11) - 1) % 4294967296)) ji15) ji9).bind fun t104 => (if 0 ≤ ji9 then ((impl_half.f kj15 t102 ji9).bind fun t105 => (some (Go.bits .xor .u32 (Go.bits .or .u32 (shl .u32 (Go.bits .xor .u32 t104 t103) ji9) t103) t105))) else (none)))) = some r := H
                    have A20 := Aside0.mk A200
                    clear A200
                    replace H := Option.bind_eq_some_iff.mp H
                    obtain ⟨t103, A210, H⟩ := H
                    replace H : ((impl_product.f kj15 (Go.bits .xor .u32 (Go.bits .and .u32 a0 (((ji11) - 1) % 4294967296)) ji13) (Go.bits .xor .u32 (Go.bits .and .u32 a1 (((ji11) - 1) % 4294967296)) ji15) ji9).bind fun t104 => (if 0 ≤ ji9 then ((impl_half.f kj15 t102 ji9).bind fun t105 => (some (Go.bits .xor .u32 (Go.bits .or .u32 (shl .u32 (Go.bits .xor .u32 t104 t103) ji9) t103) t105))) else (none))) = some r := H
                    have A21 := Aside0.mk A210
                    clear A210
                    replace H := Option.bind_eq_some_iff.mp H
                    obtain ⟨t104, A220, H⟩ := H
                    replace H : (if 0 ≤ ji9 then ((impl_half.f kj15 t102 ji9).bind fun t105 => (some (Go.bits .xor .u32 (Go.bits .or .u32 (shl .u32 (Go.bits .xor .u32 t104 t103) ji9) t103) t105))) else (none)) = some r := H
                    have A22 := Aside0.mk A220
                    clear A220
                    by_cases c23 : 0 ≤ ji9
                    · rw [if_pos c23] at H
                      have c23b0 := eq_true c23
                      have c23b1 : decide (0 ≤ ji9) = true := decide_eq_true c23
                      clear c23
                      obtain ⟨ji24, hji24⟩ : ∃ j_ : Int, (shl .u32 (Go.bits .xor .u32 t104 t103) ji9) = j_ := ⟨_, rfl⟩
                      replace H : ((impl_half.f kj15 t102 ji9).bind fun t105 => (some (Go.bits .xor .u32 (Go.bits .or .u32 (ji24) t103) t105))) = some r := by first | (rw [hji24] at H; exact H) | (simp only [hji24] at H ⊢; exact H)
                      (try rw [hji24] at A20)
                      (try rw [hji24] at A21)
                      (try rw [hji24] at A22)
                      have hji24_ : (IntKind.u32.wrap ((Go.bits .xor .u32 t104 t103) * 2 ^ min ji9.toNat 32)) = ji24 := hji24
                      have hji24z : ji9 ≤ 32 → (IntKind.u32.wrap ((Go.bits .xor .u32 t104 t103) * 2 ^ ji9.toNat)) = ji24 := shl_small hji24
                      replace H := Option.bind_eq_some_iff.mp H
                      obtain ⟨t105, A250, H⟩ := H
                      replace H : (some (Go.bits .xor .u32 (Go.bits .or .u32 (ji24) t103) t105)) = some r := H
                      have A25 := Aside0.mk A250
                      clear A250
                      obtain rfl := Option.some.inj H
                      go_wp2_with (first | (go_at_call 102; (with_reducible refine (ih kj15 (by have := HJ3.out; have := HJ15.out; omega) ji13 ji15 ji9 t102 _ A20.out).mono ?_); rintro e w' ⟨rfl, ⟨nd, rfl⟩⟩; (try first | exact ⟨rfl, _, World.drewN_drewN _ _ _⟩ | exact ⟨rfl, _, Eq.trans (World.drewN_drewN _ _ _) (congrArg (World.drewN _) (Nat.add_assoc _ _ _))⟩)) | (go_at_call 102; (with_reducible refine (ih kj15 (by have := HJ3.out; have := HJ15.out; omega) (Go.bits .and .u32 a0 (((ji11) - 1) % 4294967296)) (Go.bits .and .u32 a1 (((ji11) - 1) % 4294967296)) ji9 t103 _ A21.out).mono ?_); rintro e w' ⟨rfl, ⟨nd, rfl⟩⟩; (try first | exact ⟨rfl, _, World.drewN_drewN _ _ _⟩ | exact ⟨rfl, _, Eq.trans (World.drewN_drewN _ _ _) (congrArg (World.drewN _) (Nat.add_assoc _ _ _))⟩)) | (go_at_call 102; (with_reducible refine (ih kj15 (by have := HJ3.out; have := HJ15.out; omega) (Go.bits .xor .u32 (Go.bits .and .u32 a0 (((ji11) - 1) % 4294967296)) ji13) (Go.bits .xor .u32 (Go.bits .and .u32 a1 (((ji11) - 1) % 4294967296)) ji15) ji9 t104 _ A22.out).mono ?_); rintro e w' ⟨rfl, ⟨nd, rfl⟩⟩; (try first | exact ⟨rfl, _, World.drewN_drewN _ _ _⟩ | exact ⟨rfl, _, Eq.trans (World.drewN_drewN _ _ _) (congrArg (World.drewN _) (Nat.add_assoc _ _ _))⟩)) | (go_at_call 104; (with_reducible refine (impl_half.calls kj15 t102 ji9 t105 _ A25.out).mono ?_); rintro e w' ⟨rfl, ⟨nd, rfl⟩⟩; (try first | exact ⟨rfl, _, World.drewN_drewN _ _ _⟩ | exact ⟨rfl, _, Eq.trans (World.drewN_drewN _ _ _) (congrArg (World.drewN _) (Nat.add_assoc _ _ _))⟩)))
                      repeat (go_quiet (first | (go_at_call 102; (with_reducible refine (ih kj15 (by have := HJ3.out; have := HJ15.out; omega) ji13 ji15 ji9 t102 _ A20.out).mono ?_); rintro e w' ⟨rfl, ⟨nd, rfl⟩⟩; (try first | exact ⟨rfl, _, World.drewN_drewN _ _ _⟩ | exact ⟨rfl, _, Eq.trans (World.drewN_drewN _ _ _) (congrArg (World.drewN _) (Nat.add_assoc _ _ _))⟩)) | (go_at_call 102; (with_reducible refine (ih kj15 (by have := HJ3.out; have := HJ15.out; omega) (Go.bits .and .u32 a0 (((ji11) - 1) % 4294967296)) (Go.bits .and .u32 a1 (((ji11) - 1) % 4294967296)) ji9 t103 _ A21.out).mono ?_); rintro e w' ⟨rfl, ⟨nd, rfl⟩⟩; (try first | exact ⟨rfl, _, World.drewN_drewN _ _ _⟩ | exact ⟨rfl, _, Eq.trans (World.drewN_drewN _ _ _) (congrArg (World.drewN _) (Nat.add_assoc _ _ _))⟩)) | (go_at_call 102; (with_reducible refine (ih kj15 (by have := HJ3.out; have := HJ15.out; omega) (Go.bits .xor .u32 (Go.bits .and .u32 a0 (((ji11) - 1) % 4294967296)) ji13) (Go.bits .xor .u32 (Go.bits .and .u32 a1 (((ji11) - 1) % 4294967296)) ji15) ji9 t104 _ A22.out).mono ?_); rintro e w' ⟨rfl, ⟨nd, rfl⟩⟩; (try first | exact ⟨rfl, _, World.drewN_drewN _ _ _⟩ | exact ⟨rfl, _, Eq.trans (World.drewN_drewN _ _ _) (congrArg (World.drewN _) (Nat.add_assoc _ _ _))⟩)) | (go_at_call 104; (with_reducible refine (impl_half.calls kj15 t102 ji9 t105 _ A25.out).mono ?_); rintro e w' ⟨rfl, ⟨nd, rfl⟩⟩; (try first | exact ⟨rfl, _, World.drewN_drewN _ _ _⟩ | exact ⟨rfl, _, Eq.trans (World.drewN_drewN _ _ _) (congrArg (World.drewN _) (Nat.add_assoc _ _ _))⟩))); try go_wp2_with (first | (go_at_call 102; (with_reducible refine (ih kj15 (by have := HJ3.out; have := HJ15.out; omega) ji13 ji15 ji9 t102 _ A20.out).mono ?_); rintro e w' ⟨rfl, ⟨nd, rfl⟩⟩; (try first | exact ⟨rfl, _, World.drewN_drewN _ _ _⟩ | exact ⟨rfl, _, Eq.trans (World.drewN_drewN _ _ _) (congrArg (World.drewN _) (Nat.add_assoc _ _ _))⟩)) | (go_at_call 102; (with_reducible refine (ih kj15 (by have := HJ3.out; have := HJ15.out; omega) (Go.bits .and .u32 a0 (((ji11) - 1) % 4294967296)) (Go.bits .and .u32 a1 (((ji11) - 1) % 4294967296)) ji9 t103 _ A21.out).mono ?_); rintro e w' ⟨rfl, ⟨nd, rfl⟩⟩; (try first | exact ⟨rfl, _, World.drewN_drewN _ _ _⟩ | exact ⟨rfl, _, Eq.trans (World.drewN_drewN _ _ _) (congrArg (World.drewN _) (Nat.add_assoc _ _ _))⟩)) | (go_at_call 102; (with_reducible refine (ih kj15 (by have := HJ3.out; have := HJ15.out; omega) (Go.bits .xor .u32 (Go.bits .and .u32 a0 (((ji11) - 1) % 4294967296)) ji13) (Go.bits .xor .u32 (Go.bits .and .u32 a1 (((ji11) - 1) % 4294967296)) ji15) ji9 t104 _ A22.out).mono ?_); rintro e w' ⟨rfl, ⟨nd, rfl⟩⟩; (try first | exact ⟨rfl, _, World.drewN_drewN _ _ _⟩ | exact ⟨rfl, _, Eq.trans (World.drewN_drewN _ _ _) (congrArg (World.drewN _) (Nat.add_assoc _ _ _))⟩)) | (go_at_call 104; (with_reducible refine (impl_half.calls kj15 t102 ji9 t105 _ A25.out).mono ?_); rintro e w' ⟨rfl, ⟨nd, rfl⟩⟩; (try first | exact ⟨rfl, _, World.drewN_drewN _ _ _⟩ | exact ⟨rfl, _, Eq.trans (World.drewN_drewN _ _ _) (congrArg (World.drewN _) (Nat.add_assoc _ _ _))⟩))))
                      go_ret
                      exact ⟨by first | rfl | (simp; done) | (simp only [← hji9, ← hji11, ← hji13, ← hji15, ← hji24] <;> (first | rfl | simp)) | (simp [*]; done), by repeat (first | exact Drawn0.refl _ | apply Drawn0.step)⟩
                    · rw [if_neg c23] at H
                      exact absurd H (by simp)
            · rw [if_neg c10] at H
              exact absurd H (by simp)
end Go.Proofs.Yteanndgkjoinmaa.X

-- Laid by wip/xprint.py of this session (the kit's print program, with some contracts given by hand). Not trusted: Lean checks it.
namespace Go.Proofs.Yteanndgkjoinmaa.X
open Go.RowKit Go.Proofs.YteanndgkjoinmaaW.PrintWords Go.Proofs.YteanndgkjoinmaaW.PrintLast Go.Proofs.YteanndgkjoinmaaW.PrintMore
attribute [local go_sem] max2_int min2_int max_two min_two max_three min_three max_four min_four
set_option linter.unusedVariables false
set_option linter.unusedSimpArgs false
def impl_times.f (k : Nat) (a0 : Int) (a1 : Int) : Option (Int) := (impl_product.f k ((a0) % 4294967296) ((a1) % 4294967296) 16).bind fun t101 => (some (IntKind.u16.wrap (t101)))
theorem impl_times.mono : ∀ a0 a1 k, LeO (impl_times.f k a0 a1) (impl_times.f (k + 1) a0 a1) := by
  intro a0 a1 k
  unfold impl_times.f
  repeat' first
      | (with_reducible refine LeO.anyO (fun _ => ?_))
      | (with_reducible exact impl_product.mono _ _ _ _)
      | (with_reducible exact LeO.refl _)
      | (with_reducible exact LeO.none _)
      | (with_reducible refine LeO.ite ?_ ?_)
      | (with_reducible refine LeO.bind ?_ (fun _ => ?_))
      | exact impl_product.mono _ _ _ _
      | exact LeO.none _
      | refine LeO.ite ?_ ?_
      | refine LeO.bind ?_ (fun _ => ?_)
set_option maxHeartbeats 8000000 in
set_option maxRecDepth 100000 in
theorem impl_times.calls (k : Nat) (a0 : Int) (a1 : Int) (r : Int) (w : World) (h : impl_times.f k a0 a1 = some r) :
    Calls Try.prog 94 #[.int .u16 a0, .int .u16 a1] w fun e w' => e = .returned (.int .u16 r) ∧ Drawn0 w w' := by
  have H : ((impl_product.f k ((a0) % 4294967296) ((a1) % 4294967296) 16).bind fun t101 => (some (IntKind.u16.wrap (t101)))) = some r := h
  clear h
  replace H := Option.bind_eq_some_iff.mp H
  obtain ⟨t101, A30, H⟩ := H
  replace H : (some (IntKind.u16.wrap (t101))) = some r := H
  have A3 := Aside0.mk A30
  clear A30
  obtain rfl := Option.some.inj H
  go_enter Try.func94, Try.ntmps94
  go_wp2_with (first | ((with_reducible refine gate_callee (f := 102) rfl ?_); refine goesL_ (some 9) rfl rfl Try.func102 (by kernel_rfl) rfl #[.int .u32 ((a0) % 4294967296), .int .u32 ((a1) % 4294967296), .int .i64 16] rfl (by (try simp only [List.map_toArray, List.map_cons, List.map_nil]); first | done | rfl | (simp only [List.length_drop, List.length_take]; rfl)) ?_; (with_reducible refine (impl_product.calls k ((a0) % 4294967296) ((a1) % 4294967296) 16 t101 _ A3.out).mono ?_); rintro e w' ⟨rfl, ⟨nd, rfl⟩⟩; refine ⟨_, rfl, ?_⟩))
  go_ret
  exact ⟨by first | rfl | (simp; done) | (simp [*]; done), by repeat (first | exact Drawn0.refl _ | apply Drawn0.step)⟩
end Go.Proofs.Yteanndgkjoinmaa.X

-- Laid by wip/xprint.py of this session (the kit's print program, with some contracts given by hand). Not trusted: Lean checks it.
namespace Go.Proofs.Yteanndgkjoinmaa.X
open Go.RowKit Go.Proofs.YteanndgkjoinmaaW.PrintWords Go.Proofs.YteanndgkjoinmaaW.PrintLast Go.Proofs.YteanndgkjoinmaaW.PrintMore
attribute [local go_sem] max2_int min2_int max_two min_two max_three min_three max_four min_four
set_option linter.unusedVariables false
set_option linter.unusedSimpArgs false
mutual
def impl_Circuit_firstWrong.l0 : Nat → Int → Int → Int → Int → Int → Int → List (S68) → List Int → Option (Int × Int × Bool)
  | 0, _, _, _, _, _, _, _, _ => none
  | k + 1, x1, x2, x9, x16, x17, x102000, x102001, x102002 => if x17 < x16 then (impl_Circuit_firstWrong.l1 k x1 x2 x9 x17 x16 x17 x9 0 x102000 x102001 x102002) else (some (0, 0, false))
def impl_Circuit_firstWrong.l1 : Nat → Int → Int → Int → Int → Int → Int → Int → Int → Int → List (S68) → List Int → Option (Int × Int × Bool)
  | 0, _, _, _, _, _, _, _, _, _, _, _ => none
  | k + 1, x1, x2, x9, x10, x16, x17, x20, x21, x102000, x102001, x102002 => if x21 < x20 then (if x1 = 1 then ((impl_times.f k x10 x21).bind fun t102 => (if 0 ≤ x2 then ((impl_Circuit_run.f k x102000 x102001 x102002 (Go.bits .or .u16 x10 (shl .u16 x21 (shl .u64 1 x2)))).bind fun t103 => (if t103 = t102 then (impl_Circuit_firstWrong.l1 k x1 x2 x9 x10 x16 x17 x20 (IntKind.u16.wrap (x21 + 1)) x102000 x102001 x102002) else (some (x10, x21, true)))) else (none))) else (if 0 ≤ x2 then ((impl_Circuit_run.f k x102000 x102001 x102002 (Go.bits .or .u16 x10 (shl .u16 x21 (shl .u64 1 x2)))).bind fun t104 => (if t104 = (Go.bits .xor .u16 x10 x21) then (impl_Circuit_firstWrong.l1 k x1 x2 x9 x10 x16 x17 x20 (IntKind.u16.wrap (x21 + 1)) x102000 x102001 x102002) else (some (x10, x21, true)))) else (none))) else (impl_Circuit_firstWrong.l0 k x1 x2 x9 x16 (IntKind.u16.wrap (x17 + 1)) x102000 x102001 x102002)
end
def impl_Circuit_firstWrong.f (k : Nat) (a0_0 : Int) (l0_1 : List (S68)) (l0_2 : List Int) (a1 : Int) (a2 : Int) : Option (Int × Int × Bool) := if 0 ≤ a2 then (impl_Circuit_firstWrong.l0 k a1 a2 (shl .u16 1 (shl .u64 1 a2)) (shl .u16 1 (shl .u64 1 a2)) 0 a0_0 l0_1 l0_2) else (none)
def impl_Circuit_firstWrong.T11 : Bool × List (List Nat × List Nat) := (true, [([], []), ([], []), ([], []), ([], []), ([3], [3]), ([2, 4], [2, 4]), ([1, 5], [1, 5]), ([0, 6], [0, 6]), ([], []), ([7, 8], [7, 8])])
def impl_Circuit_firstWrong.B11 : List Nat := [0, 0, 0, 0, 8, 28, 62, 127, 0, 511]
theorem impl_Circuit_firstWrong.tab11 : rtab .any (opsOf Try.f68 11) = impl_Circuit_firstWrong.T11 := by kernel_rfl
theorem impl_Circuit_firstWrong.bits11 : waitsOk impl_Circuit_firstWrong.T11.2 impl_Circuit_firstWrong.B11 = true := by kernel_rfl
set_option maxHeartbeats 8000000 in
set_option maxRecDepth 100000 in
theorem impl_Circuit_firstWrong.calls (k : Nat) (a0_0 : Int) (A0_1 : Option Addr) (c0_1 : Nat) (l0_1 : List (S68)) (A0_2 : Option Addr) (c0_2 : Nat) (l0_2 : List Int) (a1 : Int) (a2 : Int) (r1 : Int) (r2 : Int) (r3 : Bool) (w : World) (hr0_1 : Kd.C k68 w A0_1 l0_1.length l0_1) (hc0_1 : l0_1.length ≤ c0_1) (hr0_2 : Kd.C (Kd.int .i16) w A0_2 l0_2.length l0_2) (hc0_2 : l0_2.length ≤ c0_2) (h : impl_Circuit_firstWrong.f k a0_0 l0_1 l0_2 a1 a2 = some (r1, r2, r3)) :
    Calls Try.prog 68 #[.agg #[.int .i8 a0_0, .slice A0_1 l0_1.length c0_1, .slice A0_2 l0_2.length c0_2], .int .i64 a1, .int .i64 a2] w fun e w' => e = .returned (.tuple #[.int .u16 r1, .int .u16 r2, .bool r3]) ∧ Below w.heap.size w w' := by
  have hu30 := Try.underlying30
  have HR0_1 := Aside0.mk hr0_1
  have HC0_1 := Aside0.mk hc0_1
  clear hr0_1 hc0_1
  have HR0_2 := Aside0.mk hr0_2
  have HC0_2 := Aside0.mk hc0_2
  clear hr0_2 hc0_2
  have HB := Aside0.mk (Below.refl w.heap.size w)
  have H : (if 0 ≤ a2 then (impl_Circuit_firstWrong.l0 k a1 a2 (shl .u16 1 (shl .u64 1 a2)) (shl .u16 1 (shl .u64 1 a2)) 0 a0_0 l0_1 l0_2) else (none)) = some (r1, r2, r3) := h
  clear h
  by_cases c4 : 0 ≤ a2
  · rw [if_pos c4] at H
    have c4b0 := eq_true c4
    have c4b1 : decide (0 ≤ a2) = true := decide_eq_true c4
    clear c4
    obtain ⟨ji5, hji5⟩ : ∃ j_ : Int, (shl .u64 1 a2) = j_ := ⟨_, rfl⟩
    try have hji5p : decide (0 ≤ ji5) = true := decide_eq_true (by rw [← hji5]; unfold shl IntKind.wrap; simp [IntKind.u64, IntKind.signed]; omega)
    try have hji5q : 0 ≤ ji5 := of_decide_eq_true hji5p
    replace H : (impl_Circuit_firstWrong.l0 k a1 a2 (shl .u16 1 (ji5)) (shl .u16 1 (ji5)) 0 a0_0 l0_1 l0_2) = some (r1, r2, r3) := by first | (rw [hji5] at H; exact H) | (simp only [hji5] at H ⊢; exact H)
    have hji5_ : (IntKind.u64.wrap (1 * 2 ^ min a2.toNat 64)) = ji5 := hji5
    have hji5z : a2 ≤ 64 → (IntKind.u64.wrap (1 * 2 ^ a2.toNat)) = ji5 := shl_small hji5
    have hji5u : (IntKind.u64.wrap (2 ^ min a2.toNat 64)) = ji5 := by have h_ := hji5_; rw [Int.one_mul] at h_; exact h_
    have hji5v : a2 ≤ 64 → (IntKind.u64.wrap (2 ^ a2.toNat)) = ji5 := fun hle_ => by have h_ := hji5z hle_; rw [Int.one_mul] at h_; exact h_
    obtain ⟨ji6, hji6⟩ : ∃ j_ : Int, (shl .u16 1 (ji5)) = j_ := ⟨_, rfl⟩
    try have hji6p : decide (0 ≤ ji6) = true := decide_eq_true (by rw [← hji6]; unfold shl IntKind.wrap; simp [IntKind.u64, IntKind.signed]; omega)
    try have hji6q : 0 ≤ ji6 := of_decide_eq_true hji6p
    replace H : (impl_Circuit_firstWrong.l0 k a1 a2 ji6 ji6 0 a0_0 l0_1 l0_2) = some (r1, r2, r3) := by first | (rw [hji6] at H; exact H) | (simp only [hji6] at H ⊢; exact H)
    have hji6_ : (IntKind.u16.wrap (1 * 2 ^ min (ji5).toNat 16)) = ji6 := hji6
    have hji6z : (ji5) ≤ 16 → (IntKind.u16.wrap (1 * 2 ^ (ji5).toNat)) = ji6 := shl_small hji6
    have hji6u : (IntKind.u16.wrap (2 ^ min (ji5).toNat 16)) = ji6 := by have h_ := hji6_; rw [Int.one_mul] at h_; exact h_
    have hji6v : (ji5) ≤ 16 → (IntKind.u16.wrap (2 ^ (ji5).toNat)) = ji6 := fun hle_ => by have h_ := hji6z hle_; rw [Int.one_mul] at h_; exact h_
    have H' := Aside0.mk H
    clear H
    go_enter Try.func68, Try.ntmps68
    go_wp2_with (first | ((with_reducible refine gate_dst (N := 3) rfl ?_); refine box_event ?hg (N := 3) ?hd (cs := #[.int .i8 a0_0, .slice A0_1 l0_1.length c0_1, .slice A0_2 l0_2.length c0_2]) (t := 30) ?hr ?_; (case hd => rfl); (case hg => rfl); (case hr => first | (go_simp; done) | (go_simp; rfl)); intro gb101 hg w7 hbox hb; have n0_ := Aside0.mk (below_step (by repeat (first | (with_reducible first | exact HB.out | apply below_alloc | apply pw_below_drewN | apply below_drew1) | exact HB.out)) hb); have n1_ := Aside0.mk (hbox); have n2_ := Aside0.mk ((by rw [hg]; exact (below_size (by repeat (first | (with_reducible first | exact HB.out | apply below_alloc | apply pw_below_drewN | apply below_drew1) | exact HB.out))) : w.heap.size ≤ gb101)); have n3_ := Aside0.mk ((by rw [hg]; exact (below_size (by repeat (first | (with_reducible first | exact HB.out | apply below_alloc | apply pw_below_drewN | apply below_drew1) | exact HB.out))) : w.heap.size ≤ gb101)); clear HB; have HB := n0_; have BK101 := n1_; have GW101 := n2_; have GE101 := n3_; clear n0_ n1_ n2_ n3_; clear hb hbox hg))
    go_loopg [17] k (fun kq v17 w' => ∃ (x17_1 : Int), v17 = .int .u16 x17_1 ∧ Aside0 (impl_Circuit_firstWrong.l0 kq a1 a2 ji6 ji6 x17_1 a0_0 l0_1 l0_2 = some (r1, r2, r3)) ∧ Aside0 (kq ≤ k) ∧ Aside0 (w'.heap[gb101]? = some (.cells #[.int .i8 a0_0, (.slice A0_1 l0_1.length c0_1), (.slice A0_2 l0_2.length c0_2)] 30 (0, 0))) ∧ Aside0 (Below w.heap.size w w'))
    case atStart => exact ⟨(0), (by first | rfl | (simp; done) | (simp [*]; done)), H', ⟨Nat.le_refl _⟩, ⟨by (with_reducible repeat (first | refine blk_drewN ?_ _ | refine blk_drew ?_ | refine blk_alloc ?_ _)); exact BK101.out⟩, ⟨by repeat (first | (with_reducible first | exact HB.out | apply below_alloc | apply pw_below_drewN | apply below_drew1 | refine below_set ?_ GE101.out) | exact HB.out)⟩⟩
    case round =>
      clear H'
      try clear p2
      try clear c4
      try clear c4b0
      try clear c4b1
      try clear c6
      obtain ⟨x17_1, rfl, HA, HK1, BK101, HB⟩ := hrel
      cases gk with
      | zero => exact absurd HA.out (by simp [impl_Circuit_firstWrong.l0])
      | succ k1 =>
        have H := HA.out
        clear HA
        simp only [impl_Circuit_firstWrong.l0] at H
        by_cases c8 : x17_1 < ji6
        · rw [if_pos c8] at H
          have c8b0 : decide (x17_1 < ji6) = true := decide_eq_true c8
          clear c8
          have H' := Aside0.mk H
          clear H
          go_wp2
          go_loopg [21] k1 (fun kq v21 w' => ∃ (x21_2 : Int), v21 = .int .u16 x21_2 ∧ Aside0 (impl_Circuit_firstWrong.l1 kq a1 a2 ji6 x17_1 ji6 x17_1 ji6 x21_2 a0_0 l0_1 l0_2 = some (r1, r2, r3)) ∧ Aside0 (kq ≤ k1) ∧ Aside0 (w'.heap[gb101]? = some (.cells #[.int .i8 a0_0, (.slice A0_1 l0_1.length c0_1), (.slice A0_2 l0_2.length c0_2)] 30 (0, 0))) ∧ Aside0 (Below w.heap.size w w'))
          case atStart => exact ⟨(0), (by first | rfl | (simp; done) | (simp [*]; done)), H', ⟨Nat.le_refl _⟩, ⟨by (with_reducible repeat (first | refine blk_drewN ?_ _ | refine blk_drew ?_ | refine blk_alloc ?_ _)); exact BK101.out⟩, ⟨by repeat (first | (with_reducible first | exact HB.out | apply below_alloc | apply pw_below_drewN | apply below_drew1 | refine below_set ?_ GE101.out) | exact HB.out)⟩⟩
          case round =>
            clear H'
            try clear p2
            try clear c4
            try clear c4b0
            try clear c4b1
            try clear c6
            try clear c8
            try clear c8b0
            try clear p2
            obtain ⟨x21_2, rfl, HA, HK2, BK101, HB⟩ := hrel
            cases gk with
            | zero => exact absurd HA.out (by simp [impl_Circuit_firstWrong.l1])
            | succ k2 =>
              have H := HA.out
              clear HA
              simp only [impl_Circuit_firstWrong.l1] at H
              by_cases c9 : x21_2 < ji6
              · rw [if_pos c9] at H
                have c9b0 : decide (x21_2 < ji6) = true := decide_eq_true c9
                clear c9
                by_cases c10 : a1 = 1
                · rw [if_pos c10] at H
                  have c10b0 : (a1 == 1) = true := beq_iff_eq.mpr c10
                  have c10b1 : (a1 != 1) = false := bne_eq_false_iff_eq.mpr c10
                  clear c10
                  replace H := Option.bind_eq_some_iff.mp H
                  obtain ⟨t102, A110, H⟩ := H
                  replace H : (if 0 ≤ a2 then ((impl_Circuit_run.f k2 a0_0 l0_1 l0_2 (Go.bits .or .u16 x17_1 (shl .u16 x21_2 (shl .u64 1 a2)))).bind fun t103 => (if t103 = t102 then (impl_Circuit_firstWrong.l1 k2 a1 a2 ji6 x17_1 ji6 x17_1 ji6 (IntKind.u16.wrap (x21_2 + 1)) a0_0 l0_1 l0_2) else (some (x17_1, x21_2, true)))) else (none)) = some (r1, r2, r3) := H
                  have A11 := Aside0.mk A110
                  clear A110
                  by_cases c12 : 0 ≤ a2
                  · rw [if_pos c12] at H
                    have c12b0 := eq_true c12
                    have c12b1 : decide (0 ≤ a2) = true := decide_eq_true c12
                    clear c12
                    obtain ⟨ji13, hji13⟩ : ∃ j_ : Int, (shl .u64 1 a2) = j_ := ⟨_, rfl⟩
                    try have hji13p : decide (0 ≤ ji13) = true := decide_eq_true (by rw [← hji13]; unfold shl IntKind.wrap; simp [IntKind.u64, IntKind.signed]; omega)
                    try have hji13q : 0 ≤ ji13 := of_decide_eq_true hji13p
                    have hji13e : ji5 = ji13 := hji5.symm.trans hji13
                    replace H : ((impl_Circuit_run.f k2 a0_0 l0_1 l0_2 (Go.bits .or .u16 x17_1 (shl .u16 x21_2 (ji13)))).bind fun t103 => (if t103 = t102 then (impl_Circuit_firstWrong.l1 k2 a1 a2 ji6 x17_1 ji6 x17_1 ji6 (IntKind.u16.wrap (x21_2 + 1)) a0_0 l0_1 l0_2) else (some (x17_1, x21_2, true)))) = some (r1, r2, r3) := by first | (rw [hji13] at H; exact H) | (simp only [hji13] at H ⊢; exact H)
                    (try rw [hji13] at A11)
                    have hji13_ : (IntKind.u64.wrap (1 * 2 ^ min a2.toNat 64)) = ji13 := hji13
                    have hji13z : a2 ≤ 64 → (IntKind.u64.wrap (1 * 2 ^ a2.toNat)) = ji13 := shl_small hji13
                    have hji13u : (IntKind.u64.wrap (2 ^ min a2.toNat 64)) = ji13 := by have h_ := hji13_; rw [Int.one_mul] at h_; exact h_
                    have hji13v : a2 ≤ 64 → (IntKind.u64.wrap (2 ^ a2.toNat)) = ji13 := fun hle_ => by have h_ := hji13z hle_; rw [Int.one_mul] at h_; exact h_
                    obtain ⟨ji14, hji14⟩ : ∃ j_ : Int, (shl .u16 x21_2 (ji13)) = j_ := ⟨_, rfl⟩
                    try have hji14p : decide (0 ≤ ji14) = true := decide_eq_true (by rw [← hji14]; unfold shl IntKind.wrap; simp [IntKind.u64, IntKind.signed]; omega)
                    try have hji14q : 0 ≤ ji14 := of_decide_eq_true hji14p
                    replace H : ((impl_Circuit_run.f k2 a0_0 l0_1 l0_2 (Go.bits .or .u16 x17_1 (ji14))).bind fun t103 => (if t103 = t102 then (impl_Circuit_firstWrong.l1 k2 a1 a2 ji6 x17_1 ji6 x17_1 ji6 (IntKind.u16.wrap (x21_2 + 1)) a0_0 l0_1 l0_2) else (some (x17_1, x21_2, true)))) = some (r1, r2, r3) := by first | (rw [hji14] at H; exact H) | (simp only [hji14] at H ⊢; exact H)
                    (try rw [hji14] at A11)
                    have hji14_ : (IntKind.u16.wrap (x21_2 * 2 ^ min (ji13).toNat 16)) = ji14 := hji14
                    have hji14z : (ji13) ≤ 16 → (IntKind.u16.wrap (x21_2 * 2 ^ (ji13).toNat)) = ji14 := shl_small hji14
                    replace H := Option.bind_eq_some_iff.mp H
                    obtain ⟨t103, A150, H⟩ := H
                    replace H : (if t103 = t102 then (impl_Circuit_firstWrong.l1 k2 a1 a2 ji6 x17_1 ji6 x17_1 ji6 (IntKind.u16.wrap (x21_2 + 1)) a0_0 l0_1 l0_2) else (some (x17_1, x21_2, true))) = some (r1, r2, r3) := H
                    have A15 := Aside0.mk A150
                    clear A150
                    by_cases c16 : t103 = t102
                    · rw [if_pos c16] at H
                      have c16b0 : (t103 == t102) = true := beq_iff_eq.mpr c16
                      have c16b1 : (t103 != t102) = false := bne_eq_false_iff_eq.mpr c16
                      clear c16
                      have H' := Aside0.mk H
                      clear H
                      try go_wp2_with (first | ((with_reducible refine gate_callee (f := 94) rfl ?_); refine goesL_ (some 31) rfl rfl Try.func94 (by kernel_rfl) rfl #[.int .u16 x17_1, .int .u16 x21_2] rfl (by (try simp only [List.map_toArray, List.map_cons, List.map_nil]); first | done | rfl | (simp only [List.length_drop, List.length_take]; rfl)) ?_; (with_reducible refine (impl_times.calls k2 x17_1 x21_2 t102 _ A11.out).mono ?_); rintro e w' ⟨rfl, ⟨nd, rfl⟩⟩; refine ⟨_, rfl, ?_⟩))
                      (try (rw [drewN_self wr]; generalize hq_ : World.drewN wr _ = wr; have n0_ : Aside0 (wr.heap[gb101]? = some (.cells #[.int .i8 a0_0, .slice A0_1 l0_1.length c0_1, .slice A0_2 l0_2.length c0_2] 30 (0, 0))) := ⟨by rw [← hq_]; exact (by (with_reducible repeat (first | refine blk_drewN ?_ _ | refine blk_drew ?_ | refine blk_alloc ?_ _)); exact BK101.out)⟩; have n1_ : Aside0 (Below w.heap.size w wr) := ⟨by rw [← hq_]; exact (by repeat (first | (with_reducible first | exact HB.out | apply below_alloc | apply pw_below_drewN | apply below_drew1 | refine below_set ?_ GE101.out) | exact HB.out))⟩; clear BK101 HB hq_; have BK101 := n0_; have HB := n1_; clear n0_ n1_))
                      have n0_ := Aside0.mk (blk_drew BK101.out)
                      have n1_ := Aside0.mk (below_drew1 HB.out)
                      clear BK101
                      clear HB
                      have BK101 := n0_
                      have HB := n1_
                      clear n0_ n1_
                      refine start_ (n := 10) (S := fun w' => w'.cell? ⟨gb101, 0, none⟩ = some (.int .i8 a0_0) ∧ w'.cell? ⟨gb101, 1, none⟩ = some (.slice A0_1 l0_1.length c0_1) ∧ w'.cell? ⟨gb101, 2, none⟩ = some (.slice A0_2 l0_2.length c0_2)) (ds := []) #[false, false, false, false, false, false, false, false, false, false] (by kernel_rfl) rfl rfl ⟨(blk_cell BK101.out 0).trans rfl, (blk_cell BK101.out 1).trans rfl, (blk_cell BK101.out 2).trans rfl⟩ (fun hHeld => ?_); refine with_tabW impl_Circuit_firstWrong.tab11 impl_Circuit_firstWrong.bits11 (fun HT_ HW_ => ?_)
                      generalize wr.drew = w17 at BK101 HB hHeld ⊢
                      refine pure_ (i := 1) (N := some 33) (v := ?_) (a' := ?_) #[false, true, false, false, false, false, false, false, false, false] rfl rfl (any_of HT_.out (by kernel_rfl)) (fun _ _ _ h => h) (Or.inl ⟨by rfl, ?_⟩) ?_ ?_
                      rotate_left
                      · intro w'
                        go_simp
                        with_reducible rfl
                      rotate_left
                      · simp only [Act.put, List.setIfInBounds_toArray, List.set_cons_zero, List.set_cons_succ, i64_w, i32_w]
                        rfl
                      refine pure_ (i := 2) (N := some 34) (v := ?_) (a' := ?_) #[false, true, true, false, false, false, false, false, false, false] rfl rfl (any_of HT_.out (by kernel_rfl)) (fun _ _ _ h => h) (Or.inl ⟨by rfl, ?_⟩) ?_ ?_
                      rotate_left
                      · intro w'
                        go_simp
                        with_reducible rfl
                      rotate_left
                      · simp only [Act.put, List.setIfInBounds_toArray, List.set_cons_zero, List.set_cons_succ, i64_w, i32_w]
                        rfl
                      refine pure_ (i := 3) (N := some 35) (v := ?_) (a' := ?_) #[false, true, true, true, false, false, false, false, false, false] rfl rfl (any_of HT_.out (by kernel_rfl)) (fun _ _ _ h => h) (Or.inl ⟨by rfl, ?_⟩) ?_ ?_
                      rotate_left
                      · intro w'
                        go_simp
                        with_reducible rfl
                      rotate_left
                      · simp only [Act.put, List.setIfInBounds_toArray, List.set_cons_zero, List.set_cons_succ, i64_w, i32_w]
                        rfl
                      refine pure_ (i := 4) (N := some 36) (v := ?_) (a' := ?_) #[false, true, true, true, true, false, false, false, false, false] rfl rfl (any_of HT_.out (by kernel_rfl)) (fun _ _ _ h => h) (Or.inl ⟨by rfl, ?_⟩) ?_ ?_
                      rotate_left
                      · intro w'
                        go_simp
                        with_reducible rfl
                      rotate_left
                      · simp only [Act.put, List.setIfInBounds_toArray, List.set_cons_zero, List.set_cons_succ, i64_w, i32_w]
                        rfl
                      refine pure_ (i := 5) (N := some 37) (v := ?_) (a' := ?_) #[false, true, true, true, true, true, false, false, false, false] rfl rfl (any_of HT_.out (by kernel_rfl)) (fun _ _ _ h => h) (Or.inl ⟨by rfl, ?_⟩) ?_ ?_
                      rotate_left
                      · intro w'
                        go_simp
                        with_reducible rfl
                      rotate_left
                      · simp only [Act.put, List.setIfInBounds_toArray, List.set_cons_zero, List.set_cons_succ, i64_w, i32_w]
                        rfl
                      refine pure_ (i := 6) (N := some 38) (v := ?_) (a' := ?_) #[false, true, true, true, true, true, true, false, false, false] rfl rfl (any_of HT_.out (by kernel_rfl)) (fun _ _ _ h => h) (Or.inl ⟨by rfl, ?_⟩) ?_ ?_
                      rotate_left
                      · intro w'
                        go_simp
                        with_reducible rfl
                      rotate_left
                      · simp only [Act.put, List.setIfInBounds_toArray, List.set_cons_zero, List.set_cons_succ, i64_w, i32_w]
                        rfl
                      refine pure_ (i := 8) (N := some 40) (v := ?_) (a' := ?_) #[false, true, true, true, true, true, true, false, true, false] rfl rfl (any_of HT_.out (by kernel_rfl)) (fun _ _ _ h => h) (Or.inl ⟨by rfl, ?_⟩) ?_ ?_
                      rotate_left
                      · intro w'
                        go_simp
                        with_reducible rfl
                      rotate_left
                      · simp only [Act.put, List.setIfInBounds_toArray, List.set_cons_zero, List.set_cons_succ, i64_w, i32_w]
                        rfl
                      refine take_ (i := 0) (N := some 32) (v := ?_) (a' := ?_) #[true, true, true, true, true, true, true, false, true, false] rfl rfl (take_ofW HT_.out HW_.out (by kernel_rfl)) (fun _ _ _ h => h) (Or.inl ⟨by rfl, ?_⟩) hHeld ?_ ?_
                      rotate_left
                      · rintro w' ⟨s0, s1, s2⟩
                        go_simp
                        with_reducible rfl
                      rotate_left
                      · simp only [Act.put, List.setIfInBounds_toArray, List.set_cons_zero, List.set_cons_succ, i64_w, i32_w]
                        rfl
                      refine one_ (i := 7) (N := some 39) #[true, true, true, true, true, true, true, true, true, false] rfl rfl (one_of HT_.out (by kernel_rfl)) (by decide) (fun K hK => ?_)
                      refine goes_ Try.func88 (by kernel_rfl) rfl #[.agg #[.int .i8 a0_0, .slice A0_1 l0_1.length c0_1, .slice A0_2 l0_2.length c0_2], .int .u16 (Go.bits .or .u16 x17_1 (ji14))] (by rfl) rfl rfl (by (try simp only [List.map_toArray, List.map_cons, List.map_nil]); first | done | (simp only [hji14]; rfl) | (simp only [hji13e, hji14_]; rfl) | rfl | (simp only [List.length_drop, List.length_take]; rfl)) ?_
                      with_reducible refine (impl_Circuit_run.calls k2 a0_0 _ _ l0_1 _ _ l0_2 (Go.bits .or .u16 x17_1 (ji14)) t103 _ ?side1 ?side2 ?side3 ?side4 A15.out).mono ?_
                      (case side1 => repeat (first | exact (Kd.C_below HR0_1.out HB.out) | (with_reducible refine Kd.C_alloc ?_ _) | (with_reducible refine Kd.C_drewN ?_ _) | (with_reducible refine Kd.C_drew ?_)))
                      (case side2 => exact HC0_1.out)
                      (case side3 => repeat (first | exact (Kd.C_below HR0_2.out HB.out) | (with_reducible refine Kd.C_alloc ?_ _) | (with_reducible refine Kd.C_drewN ?_ _) | (with_reducible refine Kd.C_drew ?_)))
                      (case side4 => exact HC0_2.out)
                      rintro e w18 ⟨rfl, hb⟩
                      refine ⟨_, rfl, ?_⟩
                      have n0_ := Aside0.mk (blk_below (g := gb101) (o := .cells #[.int .i8 a0_0, .slice A0_1 l0_1.length c0_1, .slice A0_2 l0_2.length c0_2] 30 (0, 0)) (by (with_reducible repeat (first | refine blk_drewN ?_ _ | refine blk_drew ?_ | refine blk_alloc ?_ _)); exact BK101.out) hb)
                      have n1_ := Aside0.mk (below_step (by repeat (first | (with_reducible first | exact HB.out | apply below_alloc | apply pw_below_drewN | apply below_drew1 | refine below_set ?_ GE101.out) | exact HB.out)) hb)
                      clear BK101
                      clear HB
                      have BK101 := n0_
                      have HB := n1_
                      clear n0_ n1_
                      (try clear hb)
                      (try clear hb2)
                      (try clear hk)
                      (try clear hi)
                      refine hK.out _ _ ⟨(blk_cell BK101.out 0).trans rfl, (blk_cell BK101.out 1).trans rfl, (blk_cell BK101.out 2).trans rfl⟩ (fun hHeld => ?_)
                      clear hK K
                      refine norm_ (a' := ?_) ?_ ?_
                      rotate_left
                      · show Act.put _ (some 39) _ = _
                        simp only [Act.put, List.setIfInBounds_toArray, List.set_cons_zero, List.set_cons_succ, i64_w, i32_w]
                        rfl
                      refine pure_ (i := 9) (N := some 41) (v := ?_) (a' := ?_) #[true, true, true, true, true, true, true, true, true, true] rfl rfl (any_of HT_.out (by kernel_rfl)) (fun _ _ _ h => h) (Or.inl ⟨by rfl, ?_⟩) ?_ ?_
                      rotate_left
                      · intro w'
                        go_simp
                        with_reducible rfl
                      rotate_left
                      · simp only [Act.put, List.setIfInBounds_toArray, List.set_cons_zero, List.set_cons_succ, i64_w, i32_w]
                        rfl
                      refine done_ (done_of HT_.out (by kernel_rfl)) ?_
                      try go_wp2
                      try subst hji13e
                      go_roundg k2
                      case measure => have := HK1.out; have := HK2.out; omega
                      case rel => exact ⟨(IntKind.u16.wrap (x21_2 + 1)), (by first | rfl | (simp; done) | (simp [*]; done)), H', ⟨by have := HK1.out; have := HK2.out; omega⟩, ⟨by (with_reducible repeat (first | refine blk_drewN ?_ _ | refine blk_drew ?_ | refine blk_alloc ?_ _)); exact BK101.out⟩, ⟨by repeat (first | (with_reducible first | exact HB.out | apply below_alloc | apply pw_below_drewN | apply below_drew1 | refine below_set ?_ GE101.out) | exact HB.out)⟩⟩
                    · rw [if_neg c16] at H
                      have c16b0 : (t103 == t102) = false := beq_eq_false_iff_ne.mpr c16
                      have c16b1 : (t103 != t102) = true := bne_iff_ne.mpr c16
                      simp only [Option.some.injEq, Prod.mk.injEq] at H
                      obtain ⟨rfl, rfl, rfl⟩ := H
                      try go_wp2_with (first | ((with_reducible refine gate_callee (f := 94) rfl ?_); refine goesL_ (some 31) rfl rfl Try.func94 (by kernel_rfl) rfl #[.int .u16 x17_1, .int .u16 x21_2] rfl (by (try simp only [List.map_toArray, List.map_cons, List.map_nil]); first | done | rfl | (simp only [List.length_drop, List.length_take]; rfl)) ?_; (with_reducible refine (impl_times.calls k2 x17_1 x21_2 t102 _ A11.out).mono ?_); rintro e w' ⟨rfl, ⟨nd, rfl⟩⟩; refine ⟨_, rfl, ?_⟩))
                      (try (rw [drewN_self wr]; generalize hq_ : World.drewN wr _ = wr; have n0_ : Aside0 (wr.heap[gb101]? = some (.cells #[.int .i8 a0_0, .slice A0_1 l0_1.length c0_1, .slice A0_2 l0_2.length c0_2] 30 (0, 0))) := ⟨by rw [← hq_]; exact (by (with_reducible repeat (first | refine blk_drewN ?_ _ | refine blk_drew ?_ | refine blk_alloc ?_ _)); exact BK101.out)⟩; have n1_ : Aside0 (Below w.heap.size w wr) := ⟨by rw [← hq_]; exact (by repeat (first | (with_reducible first | exact HB.out | apply below_alloc | apply pw_below_drewN | apply below_drew1 | refine below_set ?_ GE101.out) | exact HB.out))⟩; clear BK101 HB hq_; have BK101 := n0_; have HB := n1_; clear n0_ n1_))
                      have n0_ := Aside0.mk (blk_drew BK101.out)
                      have n1_ := Aside0.mk (below_drew1 HB.out)
                      clear BK101
                      clear HB
                      have BK101 := n0_
                      have HB := n1_
                      clear n0_ n1_
                      refine start_ (n := 10) (S := fun w' => w'.cell? ⟨gb101, 0, none⟩ = some (.int .i8 a0_0) ∧ w'.cell? ⟨gb101, 1, none⟩ = some (.slice A0_1 l0_1.length c0_1) ∧ w'.cell? ⟨gb101, 2, none⟩ = some (.slice A0_2 l0_2.length c0_2)) (ds := []) #[false, false, false, false, false, false, false, false, false, false] (by kernel_rfl) rfl rfl ⟨(blk_cell BK101.out 0).trans rfl, (blk_cell BK101.out 1).trans rfl, (blk_cell BK101.out 2).trans rfl⟩ (fun hHeld => ?_); refine with_tabW impl_Circuit_firstWrong.tab11 impl_Circuit_firstWrong.bits11 (fun HT_ HW_ => ?_)
                      generalize wr.drew = w19 at BK101 HB hHeld ⊢
                      refine pure_ (i := 1) (N := some 33) (v := ?_) (a' := ?_) #[false, true, false, false, false, false, false, false, false, false] rfl rfl (any_of HT_.out (by kernel_rfl)) (fun _ _ _ h => h) (Or.inl ⟨by rfl, ?_⟩) ?_ ?_
                      rotate_left
                      · intro w'
                        go_simp
                        with_reducible rfl
                      rotate_left
                      · simp only [Act.put, List.setIfInBounds_toArray, List.set_cons_zero, List.set_cons_succ, i64_w, i32_w]
                        rfl
                      refine pure_ (i := 2) (N := some 34) (v := ?_) (a' := ?_) #[false, true, true, false, false, false, false, false, false, false] rfl rfl (any_of HT_.out (by kernel_rfl)) (fun _ _ _ h => h) (Or.inl ⟨by rfl, ?_⟩) ?_ ?_
                      rotate_left
                      · intro w'
                        go_simp
                        with_reducible rfl
                      rotate_left
                      · simp only [Act.put, List.setIfInBounds_toArray, List.set_cons_zero, List.set_cons_succ, i64_w, i32_w]
                        rfl
                      refine pure_ (i := 3) (N := some 35) (v := ?_) (a' := ?_) #[false, true, true, true, false, false, false, false, false, false] rfl rfl (any_of HT_.out (by kernel_rfl)) (fun _ _ _ h => h) (Or.inl ⟨by rfl, ?_⟩) ?_ ?_
                      rotate_left
                      · intro w'
                        go_simp
                        with_reducible rfl
                      rotate_left
                      · simp only [Act.put, List.setIfInBounds_toArray, List.set_cons_zero, List.set_cons_succ, i64_w, i32_w]
                        rfl
                      refine pure_ (i := 4) (N := some 36) (v := ?_) (a' := ?_) #[false, true, true, true, true, false, false, false, false, false] rfl rfl (any_of HT_.out (by kernel_rfl)) (fun _ _ _ h => h) (Or.inl ⟨by rfl, ?_⟩) ?_ ?_
                      rotate_left
                      · intro w'
                        go_simp
                        with_reducible rfl
                      rotate_left
                      · simp only [Act.put, List.setIfInBounds_toArray, List.set_cons_zero, List.set_cons_succ, i64_w, i32_w]
                        rfl
                      refine pure_ (i := 5) (N := some 37) (v := ?_) (a' := ?_) #[false, true, true, true, true, true, false, false, false, false] rfl rfl (any_of HT_.out (by kernel_rfl)) (fun _ _ _ h => h) (Or.inl ⟨by rfl, ?_⟩) ?_ ?_
                      rotate_left
                      · intro w'
                        go_simp
                        with_reducible rfl
                      rotate_left
                      · simp only [Act.put, List.setIfInBounds_toArray, List.set_cons_zero, List.set_cons_succ, i64_w, i32_w]
                        rfl
                      refine pure_ (i := 6) (N := some 38) (v := ?_) (a' := ?_) #[false, true, true, true, true, true, true, false, false, false] rfl rfl (any_of HT_.out (by kernel_rfl)) (fun _ _ _ h => h) (Or.inl ⟨by rfl, ?_⟩) ?_ ?_
                      rotate_left
                      · intro w'
                        go_simp
                        with_reducible rfl
                      rotate_left
                      · simp only [Act.put, List.setIfInBounds_toArray, List.set_cons_zero, List.set_cons_succ, i64_w, i32_w]
                        rfl
                      refine pure_ (i := 8) (N := some 40) (v := ?_) (a' := ?_) #[false, true, true, true, true, true, true, false, true, false] rfl rfl (any_of HT_.out (by kernel_rfl)) (fun _ _ _ h => h) (Or.inl ⟨by rfl, ?_⟩) ?_ ?_
                      rotate_left
                      · intro w'
                        go_simp
                        with_reducible rfl
                      rotate_left
                      · simp only [Act.put, List.setIfInBounds_toArray, List.set_cons_zero, List.set_cons_succ, i64_w, i32_w]
                        rfl
                      refine take_ (i := 0) (N := some 32) (v := ?_) (a' := ?_) #[true, true, true, true, true, true, true, false, true, false] rfl rfl (take_ofW HT_.out HW_.out (by kernel_rfl)) (fun _ _ _ h => h) (Or.inl ⟨by rfl, ?_⟩) hHeld ?_ ?_
                      rotate_left
                      · rintro w' ⟨s0, s1, s2⟩
                        go_simp
                        with_reducible rfl
                      rotate_left
                      · simp only [Act.put, List.setIfInBounds_toArray, List.set_cons_zero, List.set_cons_succ, i64_w, i32_w]
                        rfl
                      refine one_ (i := 7) (N := some 39) #[true, true, true, true, true, true, true, true, true, false] rfl rfl (one_of HT_.out (by kernel_rfl)) (by decide) (fun K hK => ?_)
                      refine goes_ Try.func88 (by kernel_rfl) rfl #[.agg #[.int .i8 a0_0, .slice A0_1 l0_1.length c0_1, .slice A0_2 l0_2.length c0_2], .int .u16 (Go.bits .or .u16 x17_1 (ji14))] (by rfl) rfl rfl (by (try simp only [List.map_toArray, List.map_cons, List.map_nil]); first | done | (simp only [hji14]; rfl) | (simp only [hji13e, hji14_]; rfl) | rfl | (simp only [List.length_drop, List.length_take]; rfl)) ?_
                      with_reducible refine (impl_Circuit_run.calls k2 a0_0 _ _ l0_1 _ _ l0_2 (Go.bits .or .u16 x17_1 (ji14)) t103 _ ?side1 ?side2 ?side3 ?side4 A15.out).mono ?_
                      (case side1 => repeat (first | exact (Kd.C_below HR0_1.out HB.out) | (with_reducible refine Kd.C_alloc ?_ _) | (with_reducible refine Kd.C_drewN ?_ _) | (with_reducible refine Kd.C_drew ?_)))
                      (case side2 => exact HC0_1.out)
                      (case side3 => repeat (first | exact (Kd.C_below HR0_2.out HB.out) | (with_reducible refine Kd.C_alloc ?_ _) | (with_reducible refine Kd.C_drewN ?_ _) | (with_reducible refine Kd.C_drew ?_)))
                      (case side4 => exact HC0_2.out)
                      rintro e w20 ⟨rfl, hb⟩
                      refine ⟨_, rfl, ?_⟩
                      have n0_ := Aside0.mk (blk_below (g := gb101) (o := .cells #[.int .i8 a0_0, .slice A0_1 l0_1.length c0_1, .slice A0_2 l0_2.length c0_2] 30 (0, 0)) (by (with_reducible repeat (first | refine blk_drewN ?_ _ | refine blk_drew ?_ | refine blk_alloc ?_ _)); exact BK101.out) hb)
                      have n1_ := Aside0.mk (below_step (by repeat (first | (with_reducible first | exact HB.out | apply below_alloc | apply pw_below_drewN | apply below_drew1 | refine below_set ?_ GE101.out) | exact HB.out)) hb)
                      clear BK101
                      clear HB
                      have BK101 := n0_
                      have HB := n1_
                      clear n0_ n1_
                      (try clear hb)
                      (try clear hb2)
                      (try clear hk)
                      (try clear hi)
                      refine hK.out _ _ ⟨(blk_cell BK101.out 0).trans rfl, (blk_cell BK101.out 1).trans rfl, (blk_cell BK101.out 2).trans rfl⟩ (fun hHeld => ?_)
                      clear hK K
                      refine norm_ (a' := ?_) ?_ ?_
                      rotate_left
                      · show Act.put _ (some 39) _ = _
                        simp only [Act.put, List.setIfInBounds_toArray, List.set_cons_zero, List.set_cons_succ, i64_w, i32_w]
                        rfl
                      refine pure_ (i := 9) (N := some 41) (v := ?_) (a' := ?_) #[true, true, true, true, true, true, true, true, true, true] rfl rfl (any_of HT_.out (by kernel_rfl)) (fun _ _ _ h => h) (Or.inl ⟨by rfl, ?_⟩) ?_ ?_
                      rotate_left
                      · intro w'
                        go_simp
                        with_reducible rfl
                      rotate_left
                      · simp only [Act.put, List.setIfInBounds_toArray, List.set_cons_zero, List.set_cons_succ, i64_w, i32_w]
                        rfl
                      refine done_ (done_of HT_.out (by kernel_rfl)) ?_
                      try go_wp2
                      go_ret3
                      exact ⟨by first | rfl | (simp [errW_none, errW_some] <;> rfl) | (simp only [← hji5, ← hji6, ← hji13, ← hji14]; first | rfl | (simp [errW_none, errW_some] <;> rfl)) | (simp [*, errW_none, errW_some] <;> rfl), by repeat (first | (with_reducible first | exact HB.out | apply below_alloc | apply pw_below_drewN | apply below_drew1 | refine below_set ?_ GE101.out) | exact HB.out)⟩
                  · rw [if_neg c12] at H
                    exact absurd H (by simp)
                · rw [if_neg c10] at H
                  have c10b0 : (a1 == 1) = false := beq_eq_false_iff_ne.mpr c10
                  have c10b1 : (a1 != 1) = true := bne_iff_ne.mpr c10
                  by_cases c21 : 0 ≤ a2
                  · rw [if_pos c21] at H
                    have c21b0 := eq_true c21
                    have c21b1 : decide (0 ≤ a2) = true := decide_eq_true c21
                    clear c21
                    obtain ⟨ji22, hji22⟩ : ∃ j_ : Int, (shl .u64 1 a2) = j_ := ⟨_, rfl⟩
                    try have hji22p : decide (0 ≤ ji22) = true := decide_eq_true (by rw [← hji22]; unfold shl IntKind.wrap; simp [IntKind.u64, IntKind.signed]; omega)
                    try have hji22q : 0 ≤ ji22 := of_decide_eq_true hji22p
                    have hji22e : ji5 = ji22 := hji5.symm.trans hji22
                    replace H : ((impl_Circuit_run.f k2 a0_0 l0_1 l0_2 (Go.bits .or .u16 x17_1 (shl .u16 x21_2 (ji22)))).bind fun t104 => (if t104 = (Go.bits .xor .u16 x17_1 x21_2) then (impl_Circuit_firstWrong.l1 k2 a1 a2 ji6 x17_1 ji6 x17_1 ji6 (IntKind.u16.wrap (x21_2 + 1)) a0_0 l0_1 l0_2) else (some (x17_1, x21_2, true)))) = some (r1, r2, r3) := by first | (rw [hji22] at H; exact H) | (simp only [hji22] at H ⊢; exact H)
                    have hji22_ : (IntKind.u64.wrap (1 * 2 ^ min a2.toNat 64)) = ji22 := hji22
                    have hji22z : a2 ≤ 64 → (IntKind.u64.wrap (1 * 2 ^ a2.toNat)) = ji22 := shl_small hji22
                    have hji22u : (IntKind.u64.wrap (2 ^ min a2.toNat 64)) = ji22 := by have h_ := hji22_; rw [Int.one_mul] at h_; exact h_
                    have hji22v : a2 ≤ 64 → (IntKind.u64.wrap (2 ^ a2.toNat)) = ji22 := fun hle_ => by have h_ := hji22z hle_; rw [Int.one_mul] at h_; exact h_
                    obtain ⟨ji23, hji23⟩ : ∃ j_ : Int, (shl .u16 x21_2 (ji22)) = j_ := ⟨_, rfl⟩
                    try have hji23p : decide (0 ≤ ji23) = true := decide_eq_true (by rw [← hji23]; unfold shl IntKind.wrap; simp [IntKind.u64, IntKind.signed]; omega)
                    try have hji23q : 0 ≤ ji23 := of_decide_eq_true hji23p
                    replace H : ((impl_Circuit_run.f k2 a0_0 l0_1 l0_2 (Go.bits .or .u16 x17_1 (ji23))).bind fun t104 => (if t104 = (Go.bits .xor .u16 x17_1 x21_2) then (impl_Circuit_firstWrong.l1 k2 a1 a2 ji6 x17_1 ji6 x17_1 ji6 (IntKind.u16.wrap (x21_2 + 1)) a0_0 l0_1 l0_2) else (some (x17_1, x21_2, true)))) = some (r1, r2, r3) := by first | (rw [hji23] at H; exact H) | (simp only [hji23] at H ⊢; exact H)
                    have hji23_ : (IntKind.u16.wrap (x21_2 * 2 ^ min (ji22).toNat 16)) = ji23 := hji23
                    have hji23z : (ji22) ≤ 16 → (IntKind.u16.wrap (x21_2 * 2 ^ (ji22).toNat)) = ji23 := shl_small hji23
                    replace H := Option.bind_eq_some_iff.mp H
                    obtain ⟨t104, A240, H⟩ := H
                    replace H : (if t104 = (Go.bits .xor .u16 x17_1 x21_2) then (impl_Circuit_firstWrong.l1 k2 a1 a2 ji6 x17_1 ji6 x17_1 ji6 (IntKind.u16.wrap (x21_2 + 1)) a0_0 l0_1 l0_2) else (some (x17_1, x21_2, true))) = some (r1, r2, r3) := H
                    have A24 := Aside0.mk A240
                    clear A240
                    by_cases c25 : t104 = (Go.bits .xor .u16 x17_1 x21_2)
                    · rw [if_pos c25] at H
                      have c25b0 : (t104 == (Go.bits .xor .u16 x17_1 x21_2)) = true := beq_iff_eq.mpr c25
                      have c25b1 : (t104 != (Go.bits .xor .u16 x17_1 x21_2)) = false := bne_eq_false_iff_eq.mpr c25
                      clear c25
                      have H' := Aside0.mk H
                      clear H
                      try go_wp2
                      have n0_ := Aside0.mk (blk_drew BK101.out)
                      have n1_ := Aside0.mk (below_drew1 HB.out)
                      clear BK101
                      clear HB
                      have BK101 := n0_
                      have HB := n1_
                      clear n0_ n1_
                      refine start_ (n := 10) (S := fun w' => w'.cell? ⟨gb101, 0, none⟩ = some (.int .i8 a0_0) ∧ w'.cell? ⟨gb101, 1, none⟩ = some (.slice A0_1 l0_1.length c0_1) ∧ w'.cell? ⟨gb101, 2, none⟩ = some (.slice A0_2 l0_2.length c0_2)) (ds := []) #[false, false, false, false, false, false, false, false, false, false] (by kernel_rfl) rfl rfl ⟨(blk_cell BK101.out 0).trans rfl, (blk_cell BK101.out 1).trans rfl, (blk_cell BK101.out 2).trans rfl⟩ (fun hHeld => ?_); refine with_tabW impl_Circuit_firstWrong.tab11 impl_Circuit_firstWrong.bits11 (fun HT_ HW_ => ?_)
                      generalize wr.drew = w26 at BK101 HB hHeld ⊢
                      refine pure_ (i := 1) (N := some 33) (v := ?_) (a' := ?_) #[false, true, false, false, false, false, false, false, false, false] rfl rfl (any_of HT_.out (by kernel_rfl)) (fun _ _ _ h => h) (Or.inl ⟨by rfl, ?_⟩) ?_ ?_
                      rotate_left
                      · intro w'
                        go_simp
                        with_reducible rfl
                      rotate_left
                      · simp only [Act.put, List.setIfInBounds_toArray, List.set_cons_zero, List.set_cons_succ, i64_w, i32_w]
                        rfl
                      refine pure_ (i := 2) (N := some 34) (v := ?_) (a' := ?_) #[false, true, true, false, false, false, false, false, false, false] rfl rfl (any_of HT_.out (by kernel_rfl)) (fun _ _ _ h => h) (Or.inl ⟨by rfl, ?_⟩) ?_ ?_
                      rotate_left
                      · intro w'
                        go_simp
                        with_reducible rfl
                      rotate_left
                      · simp only [Act.put, List.setIfInBounds_toArray, List.set_cons_zero, List.set_cons_succ, i64_w, i32_w]
                        rfl
                      refine pure_ (i := 3) (N := some 35) (v := ?_) (a' := ?_) #[false, true, true, true, false, false, false, false, false, false] rfl rfl (any_of HT_.out (by kernel_rfl)) (fun _ _ _ h => h) (Or.inl ⟨by rfl, ?_⟩) ?_ ?_
                      rotate_left
                      · intro w'
                        go_simp
                        with_reducible rfl
                      rotate_left
                      · simp only [Act.put, List.setIfInBounds_toArray, List.set_cons_zero, List.set_cons_succ, i64_w, i32_w]
                        rfl
                      refine pure_ (i := 4) (N := some 36) (v := ?_) (a' := ?_) #[false, true, true, true, true, false, false, false, false, false] rfl rfl (any_of HT_.out (by kernel_rfl)) (fun _ _ _ h => h) (Or.inl ⟨by rfl, ?_⟩) ?_ ?_
                      rotate_left
                      · intro w'
                        go_simp
                        with_reducible rfl
                      rotate_left
                      · simp only [Act.put, List.setIfInBounds_toArray, List.set_cons_zero, List.set_cons_succ, i64_w, i32_w]
                        rfl
                      refine pure_ (i := 5) (N := some 37) (v := ?_) (a' := ?_) #[false, true, true, true, true, true, false, false, false, false] rfl rfl (any_of HT_.out (by kernel_rfl)) (fun _ _ _ h => h) (Or.inl ⟨by rfl, ?_⟩) ?_ ?_
                      rotate_left
                      · intro w'
                        go_simp
                        with_reducible rfl
                      rotate_left
                      · simp only [Act.put, List.setIfInBounds_toArray, List.set_cons_zero, List.set_cons_succ, i64_w, i32_w]
                        rfl
                      refine pure_ (i := 6) (N := some 38) (v := ?_) (a' := ?_) #[false, true, true, true, true, true, true, false, false, false] rfl rfl (any_of HT_.out (by kernel_rfl)) (fun _ _ _ h => h) (Or.inl ⟨by rfl, ?_⟩) ?_ ?_
                      rotate_left
                      · intro w'
                        go_simp
                        with_reducible rfl
                      rotate_left
                      · simp only [Act.put, List.setIfInBounds_toArray, List.set_cons_zero, List.set_cons_succ, i64_w, i32_w]
                        rfl
                      refine pure_ (i := 8) (N := some 40) (v := ?_) (a' := ?_) #[false, true, true, true, true, true, true, false, true, false] rfl rfl (any_of HT_.out (by kernel_rfl)) (fun _ _ _ h => h) (Or.inl ⟨by rfl, ?_⟩) ?_ ?_
                      rotate_left
                      · intro w'
                        go_simp
                        with_reducible rfl
                      rotate_left
                      · simp only [Act.put, List.setIfInBounds_toArray, List.set_cons_zero, List.set_cons_succ, i64_w, i32_w]
                        rfl
                      refine take_ (i := 0) (N := some 32) (v := ?_) (a' := ?_) #[true, true, true, true, true, true, true, false, true, false] rfl rfl (take_ofW HT_.out HW_.out (by kernel_rfl)) (fun _ _ _ h => h) (Or.inl ⟨by rfl, ?_⟩) hHeld ?_ ?_
                      rotate_left
                      · rintro w' ⟨s0, s1, s2⟩
                        go_simp
                        with_reducible rfl
                      rotate_left
                      · simp only [Act.put, List.setIfInBounds_toArray, List.set_cons_zero, List.set_cons_succ, i64_w, i32_w]
                        rfl
                      refine one_ (i := 7) (N := some 39) #[true, true, true, true, true, true, true, true, true, false] rfl rfl (one_of HT_.out (by kernel_rfl)) (by decide) (fun K hK => ?_)
                      refine goes_ Try.func88 (by kernel_rfl) rfl #[.agg #[.int .i8 a0_0, .slice A0_1 l0_1.length c0_1, .slice A0_2 l0_2.length c0_2], .int .u16 (Go.bits .or .u16 x17_1 (ji23))] (by rfl) rfl rfl (by (try simp only [List.map_toArray, List.map_cons, List.map_nil]); first | done | (simp only [hji23]; rfl) | (simp only [hji22e, hji23_]; rfl) | rfl | (simp only [List.length_drop, List.length_take]; rfl)) ?_
                      with_reducible refine (impl_Circuit_run.calls k2 a0_0 _ _ l0_1 _ _ l0_2 (Go.bits .or .u16 x17_1 (ji23)) t104 _ ?side1 ?side2 ?side3 ?side4 A24.out).mono ?_
                      (case side1 => repeat (first | exact (Kd.C_below HR0_1.out HB.out) | (with_reducible refine Kd.C_alloc ?_ _) | (with_reducible refine Kd.C_drewN ?_ _) | (with_reducible refine Kd.C_drew ?_)))
                      (case side2 => exact HC0_1.out)
                      (case side3 => repeat (first | exact (Kd.C_below HR0_2.out HB.out) | (with_reducible refine Kd.C_alloc ?_ _) | (with_reducible refine Kd.C_drewN ?_ _) | (with_reducible refine Kd.C_drew ?_)))
                      (case side4 => exact HC0_2.out)
                      rintro e w27 ⟨rfl, hb⟩
                      refine ⟨_, rfl, ?_⟩
                      have n0_ := Aside0.mk (blk_below (g := gb101) (o := .cells #[.int .i8 a0_0, .slice A0_1 l0_1.length c0_1, .slice A0_2 l0_2.length c0_2] 30 (0, 0)) (by (with_reducible repeat (first | refine blk_drewN ?_ _ | refine blk_drew ?_ | refine blk_alloc ?_ _)); exact BK101.out) hb)
                      have n1_ := Aside0.mk (below_step (by repeat (first | (with_reducible first | exact HB.out | apply below_alloc | apply pw_below_drewN | apply below_drew1 | refine below_set ?_ GE101.out) | exact HB.out)) hb)
                      clear BK101
                      clear HB
                      have BK101 := n0_
                      have HB := n1_
                      clear n0_ n1_
                      (try clear hb)
                      (try clear hb2)
                      (try clear hk)
                      (try clear hi)
                      refine hK.out _ _ ⟨(blk_cell BK101.out 0).trans rfl, (blk_cell BK101.out 1).trans rfl, (blk_cell BK101.out 2).trans rfl⟩ (fun hHeld => ?_)
                      clear hK K
                      refine norm_ (a' := ?_) ?_ ?_
                      rotate_left
                      · show Act.put _ (some 39) _ = _
                        simp only [Act.put, List.setIfInBounds_toArray, List.set_cons_zero, List.set_cons_succ, i64_w, i32_w]
                        rfl
                      refine pure_ (i := 9) (N := some 41) (v := ?_) (a' := ?_) #[true, true, true, true, true, true, true, true, true, true] rfl rfl (any_of HT_.out (by kernel_rfl)) (fun _ _ _ h => h) (Or.inl ⟨by rfl, ?_⟩) ?_ ?_
                      rotate_left
                      · intro w'
                        go_simp
                        with_reducible rfl
                      rotate_left
                      · simp only [Act.put, List.setIfInBounds_toArray, List.set_cons_zero, List.set_cons_succ, i64_w, i32_w]
                        rfl
                      refine done_ (done_of HT_.out (by kernel_rfl)) ?_
                      try go_wp2
                      try subst hji22e
                      go_roundg k2
                      case measure => have := HK1.out; have := HK2.out; omega
                      case rel => exact ⟨(IntKind.u16.wrap (x21_2 + 1)), (by first | rfl | (simp; done) | (simp [*]; done)), H', ⟨by have := HK1.out; have := HK2.out; omega⟩, ⟨by (with_reducible repeat (first | refine blk_drewN ?_ _ | refine blk_drew ?_ | refine blk_alloc ?_ _)); exact BK101.out⟩, ⟨by repeat (first | (with_reducible first | exact HB.out | apply below_alloc | apply pw_below_drewN | apply below_drew1 | refine below_set ?_ GE101.out) | exact HB.out)⟩⟩
                    · rw [if_neg c25] at H
                      have c25b0 : (t104 == (Go.bits .xor .u16 x17_1 x21_2)) = false := beq_eq_false_iff_ne.mpr c25
                      have c25b1 : (t104 != (Go.bits .xor .u16 x17_1 x21_2)) = true := bne_iff_ne.mpr c25
                      simp only [Option.some.injEq, Prod.mk.injEq] at H
                      obtain ⟨rfl, rfl, rfl⟩ := H
                      try go_wp2
                      have n0_ := Aside0.mk (blk_drew BK101.out)
                      have n1_ := Aside0.mk (below_drew1 HB.out)
                      clear BK101
                      clear HB
                      have BK101 := n0_
                      have HB := n1_
                      clear n0_ n1_
                      refine start_ (n := 10) (S := fun w' => w'.cell? ⟨gb101, 0, none⟩ = some (.int .i8 a0_0) ∧ w'.cell? ⟨gb101, 1, none⟩ = some (.slice A0_1 l0_1.length c0_1) ∧ w'.cell? ⟨gb101, 2, none⟩ = some (.slice A0_2 l0_2.length c0_2)) (ds := []) #[false, false, false, false, false, false, false, false, false, false] (by kernel_rfl) rfl rfl ⟨(blk_cell BK101.out 0).trans rfl, (blk_cell BK101.out 1).trans rfl, (blk_cell BK101.out 2).trans rfl⟩ (fun hHeld => ?_); refine with_tabW impl_Circuit_firstWrong.tab11 impl_Circuit_firstWrong.bits11 (fun HT_ HW_ => ?_)
                      generalize wr.drew = w28 at BK101 HB hHeld ⊢
                      refine pure_ (i := 1) (N := some 33) (v := ?_) (a' := ?_) #[false, true, false, false, false, false, false, false, false, false] rfl rfl (any_of HT_.out (by kernel_rfl)) (fun _ _ _ h => h) (Or.inl ⟨by rfl, ?_⟩) ?_ ?_
                      rotate_left
                      · intro w'
                        go_simp
                        with_reducible rfl
                      rotate_left
                      · simp only [Act.put, List.setIfInBounds_toArray, List.set_cons_zero, List.set_cons_succ, i64_w, i32_w]
                        rfl
                      refine pure_ (i := 2) (N := some 34) (v := ?_) (a' := ?_) #[false, true, true, false, false, false, false, false, false, false] rfl rfl (any_of HT_.out (by kernel_rfl)) (fun _ _ _ h => h) (Or.inl ⟨by rfl, ?_⟩) ?_ ?_
                      rotate_left
                      · intro w'
                        go_simp
                        with_reducible rfl
                      rotate_left
                      · simp only [Act.put, List.setIfInBounds_toArray, List.set_cons_zero, List.set_cons_succ, i64_w, i32_w]
                        rfl
                      refine pure_ (i := 3) (N := some 35) (v := ?_) (a' := ?_) #[false, true, true, true, false, false, false, false, false, false] rfl rfl (any_of HT_.out (by kernel_rfl)) (fun _ _ _ h => h) (Or.inl ⟨by rfl, ?_⟩) ?_ ?_
                      rotate_left
                      · intro w'
                        go_simp
                        with_reducible rfl
                      rotate_left
                      · simp only [Act.put, List.setIfInBounds_toArray, List.set_cons_zero, List.set_cons_succ, i64_w, i32_w]
                        rfl
                      refine pure_ (i := 4) (N := some 36) (v := ?_) (a' := ?_) #[false, true, true, true, true, false, false, false, false, false] rfl rfl (any_of HT_.out (by kernel_rfl)) (fun _ _ _ h => h) (Or.inl ⟨by rfl, ?_⟩) ?_ ?_
                      rotate_left
                      · intro w'
                        go_simp
                        with_reducible rfl
                      rotate_left
                      · simp only [Act.put, List.setIfInBounds_toArray, List.set_cons_zero, List.set_cons_succ, i64_w, i32_w]
                        rfl
                      refine pure_ (i := 5) (N := some 37) (v := ?_) (a' := ?_) #[false, true, true, true, true, true, false, false, false, false] rfl rfl (any_of HT_.out (by kernel_rfl)) (fun _ _ _ h => h) (Or.inl ⟨by rfl, ?_⟩) ?_ ?_
                      rotate_left
                      · intro w'
                        go_simp
                        with_reducible rfl
                      rotate_left
                      · simp only [Act.put, List.setIfInBounds_toArray, List.set_cons_zero, List.set_cons_succ, i64_w, i32_w]
                        rfl
                      refine pure_ (i := 6) (N := some 38) (v := ?_) (a' := ?_) #[false, true, true, true, true, true, true, false, false, false] rfl rfl (any_of HT_.out (by kernel_rfl)) (fun _ _ _ h => h) (Or.inl ⟨by rfl, ?_⟩) ?_ ?_
                      rotate_left
                      · intro w'
                        go_simp
                        with_reducible rfl
                      rotate_left
                      · simp only [Act.put, List.setIfInBounds_toArray, List.set_cons_zero, List.set_cons_succ, i64_w, i32_w]
                        rfl
                      refine pure_ (i := 8) (N := some 40) (v := ?_) (a' := ?_) #[false, true, true, true, true, true, true, false, true, false] rfl rfl (any_of HT_.out (by kernel_rfl)) (fun _ _ _ h => h) (Or.inl ⟨by rfl, ?_⟩) ?_ ?_
                      rotate_left
                      · intro w'
                        go_simp
                        with_reducible rfl
                      rotate_left
                      · simp only [Act.put, List.setIfInBounds_toArray, List.set_cons_zero, List.set_cons_succ, i64_w, i32_w]
                        rfl
                      refine take_ (i := 0) (N := some 32) (v := ?_) (a' := ?_) #[true, true, true, true, true, true, true, false, true, false] rfl rfl (take_ofW HT_.out HW_.out (by kernel_rfl)) (fun _ _ _ h => h) (Or.inl ⟨by rfl, ?_⟩) hHeld ?_ ?_
                      rotate_left
                      · rintro w' ⟨s0, s1, s2⟩
                        go_simp
                        with_reducible rfl
                      rotate_left
                      · simp only [Act.put, List.setIfInBounds_toArray, List.set_cons_zero, List.set_cons_succ, i64_w, i32_w]
                        rfl
                      refine one_ (i := 7) (N := some 39) #[true, true, true, true, true, true, true, true, true, false] rfl rfl (one_of HT_.out (by kernel_rfl)) (by decide) (fun K hK => ?_)
                      refine goes_ Try.func88 (by kernel_rfl) rfl #[.agg #[.int .i8 a0_0, .slice A0_1 l0_1.length c0_1, .slice A0_2 l0_2.length c0_2], .int .u16 (Go.bits .or .u16 x17_1 (ji23))] (by rfl) rfl rfl (by (try simp only [List.map_toArray, List.map_cons, List.map_nil]); first | done | (simp only [hji23]; rfl) | (simp only [hji22e, hji23_]; rfl) | rfl | (simp only [List.length_drop, List.length_take]; rfl)) ?_
                      with_reducible refine (impl_Circuit_run.calls k2 a0_0 _ _ l0_1 _ _ l0_2 (Go.bits .or .u16 x17_1 (ji23)) t104 _ ?side1 ?side2 ?side3 ?side4 A24.out).mono ?_
                      (case side1 => repeat (first | exact (Kd.C_below HR0_1.out HB.out) | (with_reducible refine Kd.C_alloc ?_ _) | (with_reducible refine Kd.C_drewN ?_ _) | (with_reducible refine Kd.C_drew ?_)))
                      (case side2 => exact HC0_1.out)
                      (case side3 => repeat (first | exact (Kd.C_below HR0_2.out HB.out) | (with_reducible refine Kd.C_alloc ?_ _) | (with_reducible refine Kd.C_drewN ?_ _) | (with_reducible refine Kd.C_drew ?_)))
                      (case side4 => exact HC0_2.out)
                      rintro e w29 ⟨rfl, hb⟩
                      refine ⟨_, rfl, ?_⟩
                      have n0_ := Aside0.mk (blk_below (g := gb101) (o := .cells #[.int .i8 a0_0, .slice A0_1 l0_1.length c0_1, .slice A0_2 l0_2.length c0_2] 30 (0, 0)) (by (with_reducible repeat (first | refine blk_drewN ?_ _ | refine blk_drew ?_ | refine blk_alloc ?_ _)); exact BK101.out) hb)
                      have n1_ := Aside0.mk (below_step (by repeat (first | (with_reducible first | exact HB.out | apply below_alloc | apply pw_below_drewN | apply below_drew1 | refine below_set ?_ GE101.out) | exact HB.out)) hb)
                      clear BK101
                      clear HB
                      have BK101 := n0_
                      have HB := n1_
                      clear n0_ n1_
                      (try clear hb)
                      (try clear hb2)
                      (try clear hk)
                      (try clear hi)
                      refine hK.out _ _ ⟨(blk_cell BK101.out 0).trans rfl, (blk_cell BK101.out 1).trans rfl, (blk_cell BK101.out 2).trans rfl⟩ (fun hHeld => ?_)
                      clear hK K
                      refine norm_ (a' := ?_) ?_ ?_
                      rotate_left
                      · show Act.put _ (some 39) _ = _
                        simp only [Act.put, List.setIfInBounds_toArray, List.set_cons_zero, List.set_cons_succ, i64_w, i32_w]
                        rfl
                      refine pure_ (i := 9) (N := some 41) (v := ?_) (a' := ?_) #[true, true, true, true, true, true, true, true, true, true] rfl rfl (any_of HT_.out (by kernel_rfl)) (fun _ _ _ h => h) (Or.inl ⟨by rfl, ?_⟩) ?_ ?_
                      rotate_left
                      · intro w'
                        go_simp
                        with_reducible rfl
                      rotate_left
                      · simp only [Act.put, List.setIfInBounds_toArray, List.set_cons_zero, List.set_cons_succ, i64_w, i32_w]
                        rfl
                      refine done_ (done_of HT_.out (by kernel_rfl)) ?_
                      try go_wp2
                      go_ret3
                      exact ⟨by first | rfl | (simp [errW_none, errW_some] <;> rfl) | (simp only [← hji5, ← hji6, ← hji22, ← hji23]; first | rfl | (simp [errW_none, errW_some] <;> rfl)) | (simp [*, errW_none, errW_some] <;> rfl), by repeat (first | (with_reducible first | exact HB.out | apply below_alloc | apply pw_below_drewN | apply below_drew1 | refine below_set ?_ GE101.out) | exact HB.out)⟩
                  · rw [if_neg c21] at H
                    exact absurd H (by simp)
              · rw [if_neg c9] at H
                have c9b0 : decide (x21_2 < ji6) = false := decide_eq_false c9
                clear c9
                have H' := Aside0.mk H
                clear H
                go_wp2
                go_roundg k2
                case measure => have := HK1.out; have := HK2.out; omega
                case rel => exact ⟨(IntKind.u16.wrap (x17_1 + 1)), (by first | rfl | (simp; done) | (simp [*]; done)), H', ⟨by have := HK1.out; have := HK2.out; omega⟩, ⟨by (with_reducible repeat (first | refine blk_drewN ?_ _ | refine blk_drew ?_ | refine blk_alloc ?_ _)); exact BK101.out⟩, ⟨by repeat (first | (with_reducible first | exact HB.out | apply below_alloc | apply pw_below_drewN | apply below_drew1 | refine below_set ?_ GE101.out) | exact HB.out)⟩⟩
        · rw [if_neg c8] at H
          have c8b0 : decide (x17_1 < ji6) = false := decide_eq_false c8
          clear c8
          simp only [Option.some.injEq, Prod.mk.injEq] at H
          obtain ⟨rfl, rfl, rfl⟩ := H
          go_wp2
          go_ret3
          exact ⟨by first | rfl | (simp [errW_none, errW_some] <;> rfl) | (simp only [← hji5, ← hji6]; first | rfl | (simp [errW_none, errW_some] <;> rfl)) | (simp [*, errW_none, errW_some] <;> rfl), by repeat (first | (with_reducible first | exact HB.out | apply below_alloc | apply pw_below_drewN | apply below_drew1 | refine below_set ?_ GE101.out) | exact HB.out)⟩
  · rw [if_neg c4] at H
    exact absurd H (by simp)
end Go.Proofs.Yteanndgkjoinmaa.X

-- Laid by wip/xprint.py of this session (the kit's print program, with some contracts given by hand). Not trusted: Lean checks it.
namespace Go.Proofs.Yteanndgkjoinmaa.X
open Go.RowKit Go.Proofs.YteanndgkjoinmaaW.PrintWords Go.Proofs.YteanndgkjoinmaaW.PrintLast Go.Proofs.YteanndgkjoinmaaW.PrintMore
attribute [local go_sem] max2_int min2_int max_two min_two max_three min_three max_four min_four
set_option linter.unusedVariables false
set_option linter.unusedSimpArgs false
def impl_CheckCircuit.f (k : Nat) (a0_0 : Int) (l0_1 : List (S68)) (l0_2 : List Int) (a1 : Int) (a2 : Int) : Option (Bool × Int) := (impl_claimCode.f k a0_0 l0_1 l0_2 a1 a2).bind fun t102 => (if t102 = 0 then ((impl_Circuit_firstWrong.f k a0_0 l0_1 l0_2 a1 a2).bind fun bt103 => (some (!bt103.2.2, 0))) else (if t102 = 4 then (some (false, 0)) else (some (false, t102))))
set_option maxHeartbeats 8000000 in
set_option maxRecDepth 100000 in
theorem impl_CheckCircuit.calls (k : Nat) (a0_0 : Int) (A0_1 : Option Addr) (c0_1 : Nat) (l0_1 : List (S68)) (A0_2 : Option Addr) (c0_2 : Nat) (l0_2 : List Int) (a1 : Int) (a2 : Int) (r1 : Bool) (r2 : Int) (w : World) (hr0_1 : Kd.C k68 w A0_1 l0_1.length l0_1) (hc0_1 : l0_1.length ≤ c0_1) (hr0_2 : Kd.C (Kd.int .i16) w A0_2 l0_2.length l0_2) (hc0_2 : l0_2.length ≤ c0_2) (h : impl_CheckCircuit.f k a0_0 l0_1 l0_2 a1 a2 = some (r1, r2)) :
    Calls Try.prog 21 #[.agg #[.int .i8 a0_0, .slice A0_1 l0_1.length c0_1, .slice A0_2 l0_2.length c0_2], .int .i64 a1, .int .i64 a2] w fun e w' => e = .returned (.tuple #[.bool r1, .int .i64 r2]) ∧ Below w.heap.size w w' := by
  have hu30 := Try.underlying30
  have HR0_1 := Aside0.mk hr0_1
  have HC0_1 := Aside0.mk hc0_1
  clear hr0_1 hc0_1
  have HR0_2 := Aside0.mk hr0_2
  have HC0_2 := Aside0.mk hc0_2
  clear hr0_2 hc0_2
  have HB := Aside0.mk (Below.refl w.heap.size w)
  have H : ((impl_claimCode.f k a0_0 l0_1 l0_2 a1 a2).bind fun t102 => (if t102 = 0 then ((impl_Circuit_firstWrong.f k a0_0 l0_1 l0_2 a1 a2).bind fun bt103 => (some (!bt103.2.2, 0))) else (if t102 = 4 then (some (false, 0)) else (some (false, t102))))) = some (r1, r2) := h
  clear h
  replace H := Option.bind_eq_some_iff.mp H
  obtain ⟨t102, A40, H⟩ := H
  replace H : (if t102 = 0 then ((impl_Circuit_firstWrong.f k a0_0 l0_1 l0_2 a1 a2).bind fun bt103 => (some (!bt103.2.2, 0))) else (if t102 = 4 then (some (false, 0)) else (some (false, t102)))) = some (r1, r2) := H
  have A4 := Aside0.mk A40
  clear A40
  by_cases c5 : t102 = 0
  · rw [if_pos c5] at H
    have c5b0 : (t102 == 0) = true := beq_iff_eq.mpr c5
    have c5b1 : (t102 != 0) = false := bne_eq_false_iff_eq.mpr c5
    clear c5
    replace H := Option.bind_eq_some_iff.mp H
    obtain ⟨⟨t103, t104, t105⟩, A60, H⟩ := H
    replace H : (some (!t105, 0)) = some (r1, r2) := H
    have A6 := Aside0.mk A60
    clear A60
    simp only [Option.some.injEq, Prod.mk.injEq] at H
    obtain ⟨rfl, rfl⟩ := H
    go_enter Try.func21, Try.ntmps21
    go_wp2_with (first | ((with_reducible refine gate_dst (N := 3) rfl ?_); refine box_event ?hg (N := 3) ?hd (cs := #[.int .i8 a0_0, .slice A0_1 l0_1.length c0_1, .slice A0_2 l0_2.length c0_2]) (t := 30) ?hr ?_; (case hd => rfl); (case hg => rfl); (case hr => first | (go_simp; done) | (go_simp; rfl)); intro gb101 hg w7 hbox hb; have n0_ := Aside0.mk (below_step (by repeat (first | (with_reducible first | exact HB.out | apply below_alloc | apply pw_below_drewN | apply below_drew1) | exact HB.out)) hb); have n1_ := Aside0.mk (hbox); have n2_ := Aside0.mk ((by rw [hg]; exact (below_size (by repeat (first | (with_reducible first | exact HB.out | apply below_alloc | apply pw_below_drewN | apply below_drew1) | exact HB.out))) : w.heap.size ≤ gb101)); have n3_ := Aside0.mk ((by rw [hg]; exact (below_size (by repeat (first | (with_reducible first | exact HB.out | apply below_alloc | apply pw_below_drewN | apply below_drew1) | exact HB.out))) : w.heap.size ≤ gb101)); clear HB; have HB := n0_; have BK101 := n1_; have GW101 := n2_; have GE101 := n3_; clear n0_ n1_ n2_ n3_; clear hb hbox hg; have hcz8_0 : w7.cell? ⟨gb101, 0, none⟩ = some (.int .i8 a0_0) := (blk_cell BK101.out 0).trans rfl; have hcz8_1 : w7.cell? ⟨gb101, 1, none⟩ = some (.slice A0_1 l0_1.length c0_1) := (blk_cell BK101.out 1).trans rfl; have hcz8_2 : w7.cell? ⟨gb101, 2, none⟩ = some (.slice A0_2 l0_2.length c0_2) := (blk_cell BK101.out 2).trans rfl; have hfz8_0 := blk_frozen BK101.out 0; have hfz8_1 := blk_frozen BK101.out 1; have hfz8_2 := blk_frozen BK101.out 2) | ((with_reducible refine gate_callee (f := 67) rfl ?_); refine goesL_ (some 15) rfl rfl Try.func67 (by kernel_rfl) rfl #[.agg #[.int .i8 a0_0, .slice A0_1 l0_1.length c0_1, .slice A0_2 l0_2.length c0_2], .int .i64 a1, .int .i64 a2] rfl (by (try simp only [List.map_toArray, List.map_cons, List.map_nil]); first | done | rfl | (simp only [List.length_drop, List.length_take]; rfl)) ?_; (with_reducible refine (impl_claimCode.calls k a0_0 _ _ l0_1 _ _ l0_2 a1 a2 t102 _ ?side1 ?side2 ?side3 ?side4 A4.out).mono ?_); (case side1 => repeat (first | exact (Kd.C_below HR0_1.out HB.out) | (with_reducible refine Kd.C_alloc ?_ _) | (with_reducible refine Kd.C_drewN ?_ _) | (with_reducible refine Kd.C_drew ?_))); (case side2 => exact HC0_1.out); (case side3 => repeat (first | exact (Kd.C_below HR0_2.out HB.out) | (with_reducible refine Kd.C_alloc ?_ _) | (with_reducible refine Kd.C_drewN ?_ _) | (with_reducible refine Kd.C_drew ?_))); (case side4 => exact HC0_2.out); rintro e w9 ⟨rfl, hb⟩; refine ⟨_, rfl, ?_⟩; have n0_ := Aside0.mk (blk_below (g := gb101) (o := .cells #[.int .i8 a0_0, .slice A0_1 l0_1.length c0_1, .slice A0_2 l0_2.length c0_2] 30 (0, 0)) (by (with_reducible repeat (first | refine blk_drewN ?_ _ | refine blk_drew ?_ | refine blk_alloc ?_ _)); exact BK101.out) hb); have n1_ := Aside0.mk (below_step (by repeat (first | (with_reducible first | exact HB.out | apply below_alloc | apply pw_below_drewN | apply below_drew1 | refine below_set ?_ GE101.out) | exact HB.out)) hb); clear BK101; clear HB; have BK101 := n0_; have HB := n1_; clear n0_ n1_; (try clear hb); (try clear hb2); (try clear hk); (try clear hi); have hcz10_0 : w9.cell? ⟨gb101, 0, none⟩ = some (.int .i8 a0_0) := (blk_cell BK101.out 0).trans rfl; have hcz10_1 : w9.cell? ⟨gb101, 1, none⟩ = some (.slice A0_1 l0_1.length c0_1) := (blk_cell BK101.out 1).trans rfl; have hcz10_2 : w9.cell? ⟨gb101, 2, none⟩ = some (.slice A0_2 l0_2.length c0_2) := (blk_cell BK101.out 2).trans rfl; have hfz10_0 := blk_frozen BK101.out 0; have hfz10_1 := blk_frozen BK101.out 1; have hfz10_2 := blk_frozen BK101.out 2) | ((with_reducible refine gate_callee (f := 68) rfl ?_); refine goesL_ (some 24) rfl rfl Try.func68 (by kernel_rfl) rfl #[.agg #[.int .i8 a0_0, .slice A0_1 l0_1.length c0_1, .slice A0_2 l0_2.length c0_2], .int .i64 a1, .int .i64 a2] rfl (by (try simp only [List.map_toArray, List.map_cons, List.map_nil]); first | done | rfl | (simp only [List.length_drop, List.length_take]; rfl)) ?_; (with_reducible refine (impl_Circuit_firstWrong.calls k a0_0 _ _ l0_1 _ _ l0_2 a1 a2 t103 t104 t105 _ ?side1 ?side2 ?side3 ?side4 A6.out).mono ?_); (case side1 => repeat (first | exact (Kd.C_below HR0_1.out HB.out) | (with_reducible refine Kd.C_alloc ?_ _) | (with_reducible refine Kd.C_drewN ?_ _) | (with_reducible refine Kd.C_drew ?_))); (case side2 => exact HC0_1.out); (case side3 => repeat (first | exact (Kd.C_below HR0_2.out HB.out) | (with_reducible refine Kd.C_alloc ?_ _) | (with_reducible refine Kd.C_drewN ?_ _) | (with_reducible refine Kd.C_drew ?_))); (case side4 => exact HC0_2.out); rintro e w11 ⟨rfl, hb⟩; refine ⟨_, rfl, ?_⟩; have n0_ := Aside0.mk (blk_below (g := gb101) (o := .cells #[.int .i8 a0_0, .slice A0_1 l0_1.length c0_1, .slice A0_2 l0_2.length c0_2] 30 (0, 0)) (by (with_reducible repeat (first | refine blk_drewN ?_ _ | refine blk_drew ?_ | refine blk_alloc ?_ _)); exact BK101.out) hb); have n1_ := Aside0.mk (below_step (by repeat (first | (with_reducible first | exact HB.out | apply below_alloc | apply pw_below_drewN | apply below_drew1 | refine below_set ?_ GE101.out) | exact HB.out)) hb); clear BK101; clear HB; have BK101 := n0_; have HB := n1_; clear n0_ n1_; (try clear hb); (try clear hb2); (try clear hk); (try clear hi)))
    go_ret2
    exact ⟨by first | rfl | (simp [errW_none, errW_some] <;> rfl) | (simp [*, errW_none, errW_some] <;> rfl), by repeat (first | (with_reducible first | exact HB.out | apply below_alloc | apply pw_below_drewN | apply below_drew1 | refine below_set ?_ GE101.out) | exact HB.out)⟩
  · rw [if_neg c5] at H
    have c5b0 : (t102 == 0) = false := beq_eq_false_iff_ne.mpr c5
    have c5b1 : (t102 != 0) = true := bne_iff_ne.mpr c5
    by_cases c12 : t102 = 4
    · rw [if_pos c12] at H
      have c12b0 : (t102 == 4) = true := beq_iff_eq.mpr c12
      have c12b1 : (t102 != 4) = false := bne_eq_false_iff_eq.mpr c12
      clear c12
      simp only [Option.some.injEq, Prod.mk.injEq] at H
      obtain ⟨rfl, rfl⟩ := H
      go_enter Try.func21, Try.ntmps21
      go_wp2_with (first | ((with_reducible refine gate_dst (N := 3) rfl ?_); refine box_event ?hg (N := 3) ?hd (cs := #[.int .i8 a0_0, .slice A0_1 l0_1.length c0_1, .slice A0_2 l0_2.length c0_2]) (t := 30) ?hr ?_; (case hd => rfl); (case hg => rfl); (case hr => first | (go_simp; done) | (go_simp; rfl)); intro gb101 hg w13 hbox hb; have n0_ := Aside0.mk (below_step (by repeat (first | (with_reducible first | exact HB.out | apply below_alloc | apply pw_below_drewN | apply below_drew1) | exact HB.out)) hb); have n1_ := Aside0.mk (hbox); have n2_ := Aside0.mk ((by rw [hg]; exact (below_size (by repeat (first | (with_reducible first | exact HB.out | apply below_alloc | apply pw_below_drewN | apply below_drew1) | exact HB.out))) : w.heap.size ≤ gb101)); have n3_ := Aside0.mk ((by rw [hg]; exact (below_size (by repeat (first | (with_reducible first | exact HB.out | apply below_alloc | apply pw_below_drewN | apply below_drew1) | exact HB.out))) : w.heap.size ≤ gb101)); clear HB; have HB := n0_; have BK101 := n1_; have GW101 := n2_; have GE101 := n3_; clear n0_ n1_ n2_ n3_; clear hb hbox hg; have hcz14_0 : w13.cell? ⟨gb101, 0, none⟩ = some (.int .i8 a0_0) := (blk_cell BK101.out 0).trans rfl; have hcz14_1 : w13.cell? ⟨gb101, 1, none⟩ = some (.slice A0_1 l0_1.length c0_1) := (blk_cell BK101.out 1).trans rfl; have hcz14_2 : w13.cell? ⟨gb101, 2, none⟩ = some (.slice A0_2 l0_2.length c0_2) := (blk_cell BK101.out 2).trans rfl; have hfz14_0 := blk_frozen BK101.out 0; have hfz14_1 := blk_frozen BK101.out 1; have hfz14_2 := blk_frozen BK101.out 2) | ((with_reducible refine gate_callee (f := 67) rfl ?_); refine goesL_ (some 15) rfl rfl Try.func67 (by kernel_rfl) rfl #[.agg #[.int .i8 a0_0, .slice A0_1 l0_1.length c0_1, .slice A0_2 l0_2.length c0_2], .int .i64 a1, .int .i64 a2] rfl (by (try simp only [List.map_toArray, List.map_cons, List.map_nil]); first | done | rfl | (simp only [List.length_drop, List.length_take]; rfl)) ?_; (with_reducible refine (impl_claimCode.calls k a0_0 _ _ l0_1 _ _ l0_2 a1 a2 t102 _ ?side1 ?side2 ?side3 ?side4 A4.out).mono ?_); (case side1 => repeat (first | exact (Kd.C_below HR0_1.out HB.out) | (with_reducible refine Kd.C_alloc ?_ _) | (with_reducible refine Kd.C_drewN ?_ _) | (with_reducible refine Kd.C_drew ?_))); (case side2 => exact HC0_1.out); (case side3 => repeat (first | exact (Kd.C_below HR0_2.out HB.out) | (with_reducible refine Kd.C_alloc ?_ _) | (with_reducible refine Kd.C_drewN ?_ _) | (with_reducible refine Kd.C_drew ?_))); (case side4 => exact HC0_2.out); rintro e w15 ⟨rfl, hb⟩; refine ⟨_, rfl, ?_⟩; have n0_ := Aside0.mk (blk_below (g := gb101) (o := .cells #[.int .i8 a0_0, .slice A0_1 l0_1.length c0_1, .slice A0_2 l0_2.length c0_2] 30 (0, 0)) (by (with_reducible repeat (first | refine blk_drewN ?_ _ | refine blk_drew ?_ | refine blk_alloc ?_ _)); exact BK101.out) hb); have n1_ := Aside0.mk (below_step (by repeat (first | (with_reducible first | exact HB.out | apply below_alloc | apply pw_below_drewN | apply below_drew1 | refine below_set ?_ GE101.out) | exact HB.out)) hb); clear BK101; clear HB; have BK101 := n0_; have HB := n1_; clear n0_ n1_; (try clear hb); (try clear hb2); (try clear hk); (try clear hi)))
      go_ret2
      exact ⟨by first | rfl | (simp [errW_none, errW_some] <;> rfl) | (simp [*, errW_none, errW_some] <;> rfl), by repeat (first | (with_reducible first | exact HB.out | apply below_alloc | apply pw_below_drewN | apply below_drew1 | refine below_set ?_ GE101.out) | exact HB.out)⟩
    · rw [if_neg c12] at H
      have c12b0 : (t102 == 4) = false := beq_eq_false_iff_ne.mpr c12
      have c12b1 : (t102 != 4) = true := bne_iff_ne.mpr c12
      simp only [Option.some.injEq, Prod.mk.injEq] at H
      obtain ⟨rfl, rfl⟩ := H
      go_enter Try.func21, Try.ntmps21
      go_wp2_with (first | ((with_reducible refine gate_dst (N := 3) rfl ?_); refine box_event ?hg (N := 3) ?hd (cs := #[.int .i8 a0_0, .slice A0_1 l0_1.length c0_1, .slice A0_2 l0_2.length c0_2]) (t := 30) ?hr ?_; (case hd => rfl); (case hg => rfl); (case hr => first | (go_simp; done) | (go_simp; rfl)); intro gb101 hg w16 hbox hb; have n0_ := Aside0.mk (below_step (by repeat (first | (with_reducible first | exact HB.out | apply below_alloc | apply pw_below_drewN | apply below_drew1) | exact HB.out)) hb); have n1_ := Aside0.mk (hbox); have n2_ := Aside0.mk ((by rw [hg]; exact (below_size (by repeat (first | (with_reducible first | exact HB.out | apply below_alloc | apply pw_below_drewN | apply below_drew1) | exact HB.out))) : w.heap.size ≤ gb101)); have n3_ := Aside0.mk ((by rw [hg]; exact (below_size (by repeat (first | (with_reducible first | exact HB.out | apply below_alloc | apply pw_below_drewN | apply below_drew1) | exact HB.out))) : w.heap.size ≤ gb101)); clear HB; have HB := n0_; have BK101 := n1_; have GW101 := n2_; have GE101 := n3_; clear n0_ n1_ n2_ n3_; clear hb hbox hg; have hcz17_0 : w16.cell? ⟨gb101, 0, none⟩ = some (.int .i8 a0_0) := (blk_cell BK101.out 0).trans rfl; have hcz17_1 : w16.cell? ⟨gb101, 1, none⟩ = some (.slice A0_1 l0_1.length c0_1) := (blk_cell BK101.out 1).trans rfl; have hcz17_2 : w16.cell? ⟨gb101, 2, none⟩ = some (.slice A0_2 l0_2.length c0_2) := (blk_cell BK101.out 2).trans rfl; have hfz17_0 := blk_frozen BK101.out 0; have hfz17_1 := blk_frozen BK101.out 1; have hfz17_2 := blk_frozen BK101.out 2) | ((with_reducible refine gate_callee (f := 67) rfl ?_); refine goesL_ (some 15) rfl rfl Try.func67 (by kernel_rfl) rfl #[.agg #[.int .i8 a0_0, .slice A0_1 l0_1.length c0_1, .slice A0_2 l0_2.length c0_2], .int .i64 a1, .int .i64 a2] rfl (by (try simp only [List.map_toArray, List.map_cons, List.map_nil]); first | done | rfl | (simp only [List.length_drop, List.length_take]; rfl)) ?_; (with_reducible refine (impl_claimCode.calls k a0_0 _ _ l0_1 _ _ l0_2 a1 a2 t102 _ ?side1 ?side2 ?side3 ?side4 A4.out).mono ?_); (case side1 => repeat (first | exact (Kd.C_below HR0_1.out HB.out) | (with_reducible refine Kd.C_alloc ?_ _) | (with_reducible refine Kd.C_drewN ?_ _) | (with_reducible refine Kd.C_drew ?_))); (case side2 => exact HC0_1.out); (case side3 => repeat (first | exact (Kd.C_below HR0_2.out HB.out) | (with_reducible refine Kd.C_alloc ?_ _) | (with_reducible refine Kd.C_drewN ?_ _) | (with_reducible refine Kd.C_drew ?_))); (case side4 => exact HC0_2.out); rintro e w18 ⟨rfl, hb⟩; refine ⟨_, rfl, ?_⟩; have n0_ := Aside0.mk (blk_below (g := gb101) (o := .cells #[.int .i8 a0_0, .slice A0_1 l0_1.length c0_1, .slice A0_2 l0_2.length c0_2] 30 (0, 0)) (by (with_reducible repeat (first | refine blk_drewN ?_ _ | refine blk_drew ?_ | refine blk_alloc ?_ _)); exact BK101.out) hb); have n1_ := Aside0.mk (below_step (by repeat (first | (with_reducible first | exact HB.out | apply below_alloc | apply pw_below_drewN | apply below_drew1 | refine below_set ?_ GE101.out) | exact HB.out)) hb); clear BK101; clear HB; have BK101 := n0_; have HB := n1_; clear n0_ n1_; (try clear hb); (try clear hb2); (try clear hk); (try clear hi)))
      go_ret2
      exact ⟨by first | rfl | (simp [errW_none, errW_some] <;> rfl) | (simp [*, errW_none, errW_some] <;> rfl), by repeat (first | (with_reducible first | exact HB.out | apply below_alloc | apply pw_below_drewN | apply below_drew1 | refine below_set ?_ GE101.out) | exact HB.out)⟩
end Go.Proofs.Yteanndgkjoinmaa.X

-- Laid by wip/xprint.py of this session (the kit's print program, with some contracts given by hand). Not trusted: Lean checks it.
namespace Go.Proofs.Yteanndgkjoinmaa.X
open Go.RowKit Go.Proofs.YteanndgkjoinmaaW.PrintWords Go.Proofs.YteanndgkjoinmaaW.PrintLast Go.Proofs.YteanndgkjoinmaaW.PrintMore
attribute [local go_sem] max2_int min2_int max_two min_two max_three min_three max_four min_four
set_option linter.unusedVariables false
set_option linter.unusedSimpArgs false
def laws_FnExactCheckCircuit.j0 : Nat → Bool → Int → List (S114) → List Int → Int → List (S68) → List Int → Option (Bool)
  | 0, _, _, _, _, _, _, _ => none
  | k + 1, x42, x102000, x102001, x102002, x120000, x120001, x120002 => if x42 = true then (none) else ((laws_toCircuit.f k x102000 x102001 x102002).bind fun bt122 => ((laws_eqCircuit.f k x120000 x120001 x120002 bt122.1 bt122.2.1 bt122.2.2).bind fun t129 => (if t129 = true then (some true) else (none))))
def laws_FnExactCheckCircuit.f (k : Nat) (a0_0 : Int) (l0_1 : List (S114)) (l0_2 : List Int) (a1 : Int) (a2 : Int) : Option (Bool) := (laws_szCircuit.f a0_0 l0_1 l0_2 1048576).bind fun t102 => (if t102 < 0 then (some true) else ((laws_toCircuit.f k a0_0 l0_1 l0_2).bind fun bt103 => ((spec_CheckCircuit.f k bt103.1 bt103.2.1 bt103.2.2 a1 a2).bind fun bt110 => ((laws_toCircuit.f k a0_0 l0_1 l0_2).bind fun bt112 => ((impl_CheckCircuit.f k bt112.1 bt112.2.1 bt112.2.2 a1 a2).bind fun bt120 => (if (bt120.1 != bt110.1) = true then (laws_FnExactCheckCircuit.j0 k true a0_0 l0_1 l0_2 bt112.1 bt112.2.1 bt112.2.2) else (laws_FnExactCheckCircuit.j0 k (bt120.2 != bt110.2) a0_0 l0_1 l0_2 bt112.1 bt112.2.1 bt112.2.2)))))))
set_option maxHeartbeats 8000000 in
set_option maxRecDepth 100000 in
theorem laws_FnExactCheckCircuit.calls (k : Nat) (a0_0 : Int) (A0_1 : Option Addr) (c0_1 : Nat) (l0_1 : List (S114)) (A0_2 : Option Addr) (c0_2 : Nat) (l0_2 : List Int) (a1 : Int) (a2 : Int) (r : Bool) (w : World) (hr0_1 : Kd.C k114 w A0_1 l0_1.length l0_1) (hc0_1 : l0_1.length ≤ c0_1) (hr0_2 : Kd.C (Kd.int .i16) w A0_2 l0_2.length l0_2) (hc0_2 : l0_2.length ≤ c0_2) (h : laws_FnExactCheckCircuit.f k a0_0 l0_1 l0_2 a1 a2 = some r) :
    Calls Try.prog 6 #[.agg #[.int .i8 a0_0, .slice A0_1 l0_1.length c0_1, .slice A0_2 l0_2.length c0_2], .int .i64 a1, .int .i64 a2] w fun e w' => e = .returned (.bool r) ∧ Below w.heap.size w w' := by
  have hu26 := Try.underlying26
  have hu30 := Try.underlying30
  have HR0_1 := Aside0.mk hr0_1
  have HC0_1 := Aside0.mk hc0_1
  clear hr0_1 hc0_1
  have HR0_2 := Aside0.mk hr0_2
  have HC0_2 := Aside0.mk hc0_2
  clear hr0_2 hc0_2
  have HB := Aside0.mk (Below.refl w.heap.size w)
  have H : ((laws_szCircuit.f a0_0 l0_1 l0_2 1048576).bind fun t102 => (if t102 < 0 then (some true) else ((laws_toCircuit.f k a0_0 l0_1 l0_2).bind fun bt103 => ((spec_CheckCircuit.f k bt103.1 bt103.2.1 bt103.2.2 a1 a2).bind fun bt110 => ((laws_toCircuit.f k a0_0 l0_1 l0_2).bind fun bt112 => ((impl_CheckCircuit.f k bt112.1 bt112.2.1 bt112.2.2 a1 a2).bind fun bt120 => (if (bt120.1 != bt110.1) = true then (laws_FnExactCheckCircuit.j0 k true a0_0 l0_1 l0_2 bt112.1 bt112.2.1 bt112.2.2) else (laws_FnExactCheckCircuit.j0 k (bt120.2 != bt110.2) a0_0 l0_1 l0_2 bt112.1 bt112.2.1 bt112.2.2)))))))) = some r := h
  clear h
  replace H := Option.bind_eq_some_iff.mp H
  obtain ⟨t102, A40, H⟩ := H
  replace H : (if t102 < 0 then (some true) else ((laws_toCircuit.f k a0_0 l0_1 l0_2).bind fun bt103 => ((spec_CheckCircuit.f k bt103.1 bt103.2.1 bt103.2.2 a1 a2).bind fun bt110 => ((laws_toCircuit.f k a0_0 l0_1 l0_2).bind fun bt112 => ((impl_CheckCircuit.f k bt112.1 bt112.2.1 bt112.2.2 a1 a2).bind fun bt120 => (if (bt120.1 != bt110.1) = true then (laws_FnExactCheckCircuit.j0 k true a0_0 l0_1 l0_2 bt112.1 bt112.2.1 bt112.2.2) else (laws_FnExactCheckCircuit.j0 k (bt120.2 != bt110.2) a0_0 l0_1 l0_2 bt112.1 bt112.2.1 bt112.2.2))))))) = some r := H
  have A4 := Aside0.mk A40
  clear A40
  by_cases c5 : t102 < 0
  · rw [if_pos c5] at H
    have c5b0 : decide (t102 < 0) = true := decide_eq_true c5
    clear c5
    obtain rfl := Option.some.inj H
    go_enter Try.func6, Try.ntmps6
    go_wp2_with (first | ((with_reducible refine gate_dst (N := 3) rfl ?_); refine box_event ?hg (N := 3) ?hd (cs := #[.int .i8 a0_0, .slice A0_1 l0_1.length c0_1, .slice A0_2 l0_2.length c0_2]) (t := 26) ?hr ?_; (case hd => rfl); (case hg => rfl); (case hr => first | (go_simp; done) | (go_simp; rfl)); intro gb101 hg w6 hbox hb; have n0_ := Aside0.mk (below_step (by repeat (first | (with_reducible first | exact HB.out | apply below_alloc | apply pw_below_drewN | apply below_drew1) | exact HB.out)) hb); have n1_ := Aside0.mk (hbox); have n2_ := Aside0.mk ((by rw [hg]; exact (below_size (by repeat (first | (with_reducible first | exact HB.out | apply below_alloc | apply pw_below_drewN | apply below_drew1) | exact HB.out))) : w.heap.size ≤ gb101)); have n3_ := Aside0.mk ((by rw [hg]; exact (below_size (by repeat (first | (with_reducible first | exact HB.out | apply below_alloc | apply pw_below_drewN | apply below_drew1) | exact HB.out))) : w.heap.size ≤ gb101)); clear HB; have HB := n0_; have BK101 := n1_; have GW101 := n2_; have GE101 := n3_; clear n0_ n1_ n2_ n3_; clear hb hbox hg; have hcz7_0 : w6.cell? ⟨gb101, 0, none⟩ = some (.int .i8 a0_0) := (blk_cell BK101.out 0).trans rfl; have hcz7_1 : w6.cell? ⟨gb101, 1, none⟩ = some (.slice A0_1 l0_1.length c0_1) := (blk_cell BK101.out 1).trans rfl; have hcz7_2 : w6.cell? ⟨gb101, 2, none⟩ = some (.slice A0_2 l0_2.length c0_2) := (blk_cell BK101.out 2).trans rfl; have hfz7_0 := blk_frozen BK101.out 0; have hfz7_1 := blk_frozen BK101.out 1; have hfz7_2 := blk_frozen BK101.out 2) | ((with_reducible refine gate_callee (f := 9) rfl ?_); refine goesL_ (some 15) rfl rfl Try.func9 (by kernel_rfl) rfl #[.agg #[.int .i8 a0_0, .slice A0_1 l0_1.length c0_1, .slice A0_2 l0_2.length c0_2], .int .i64 1048576] rfl (by (try simp only [List.map_toArray, List.map_cons, List.map_nil]); first | done | rfl | (simp only [List.length_drop, List.length_take]; rfl)) ?_; (with_reducible refine (laws_szCircuit.calls a0_0 _ _ l0_1 _ _ l0_2 1048576 t102 _ ?side1 ?side2 ?side3 ?side4 A4.out).mono ?_); (case side1 => repeat (first | exact (Kd.C_below HR0_1.out HB.out) | (with_reducible refine Kd.C_alloc ?_ _) | (with_reducible refine Kd.C_drewN ?_ _) | (with_reducible refine Kd.C_drew ?_))); (case side2 => exact HC0_1.out); (case side3 => repeat (first | exact (Kd.C_below HR0_2.out HB.out) | (with_reducible refine Kd.C_alloc ?_ _) | (with_reducible refine Kd.C_drewN ?_ _) | (with_reducible refine Kd.C_drew ?_))); (case side4 => exact HC0_2.out); rintro e w8 ⟨rfl, hb⟩; refine ⟨_, rfl, ?_⟩; have n0_ := Aside0.mk (blk_below (g := gb101) (o := .cells #[.int .i8 a0_0, .slice A0_1 l0_1.length c0_1, .slice A0_2 l0_2.length c0_2] 26 (0, 0)) (by (with_reducible repeat (first | refine blk_drewN ?_ _ | refine blk_drew ?_ | refine blk_alloc ?_ _)); exact BK101.out) hb); have n1_ := Aside0.mk (below_step (by repeat (first | (with_reducible first | exact HB.out | apply below_alloc | apply pw_below_drewN | apply below_drew1 | refine below_set ?_ GE101.out) | exact HB.out)) hb); clear BK101; clear HB; have BK101 := n0_; have HB := n1_; clear n0_ n1_; (try clear hb); (try clear hb2); (try clear hk); (try clear hi)))
    go_ret
    exact ⟨by first | rfl | (simp [errW_none, errW_some] <;> rfl) | (simp [*, errW_none, errW_some] <;> rfl), by repeat (first | (with_reducible first | exact HB.out | apply below_alloc | apply pw_below_drewN | apply below_drew1 | refine below_set ?_ GE101.out) | exact HB.out)⟩
  · rw [if_neg c5] at H
    have c5b0 : decide (t102 < 0) = false := decide_eq_false c5
    clear c5
    replace H := Option.bind_eq_some_iff.mp H
    obtain ⟨⟨t103, t104, t107⟩, A90, H⟩ := H
    replace H : ((spec_CheckCircuit.f k t103 t104 t107 a1 a2).bind fun bt110 => ((laws_toCircuit.f k a0_0 l0_1 l0_2).bind fun bt112 => ((impl_CheckCircuit.f k bt112.1 bt112.2.1 bt112.2.2 a1 a2).bind fun bt120 => (if (bt120.1 != bt110.1) = true then (laws_FnExactCheckCircuit.j0 k true a0_0 l0_1 l0_2 bt112.1 bt112.2.1 bt112.2.2) else (laws_FnExactCheckCircuit.j0 k (bt120.2 != bt110.2) a0_0 l0_1 l0_2 bt112.1 bt112.2.1 bt112.2.2))))) = some r := H
    have A9 := Aside0.mk A90
    clear A90
    replace H := Option.bind_eq_some_iff.mp H
    obtain ⟨⟨t110, t111⟩, A100, H⟩ := H
    replace H : ((laws_toCircuit.f k a0_0 l0_1 l0_2).bind fun bt112 => ((impl_CheckCircuit.f k bt112.1 bt112.2.1 bt112.2.2 a1 a2).bind fun bt120 => (if (bt120.1 != t110) = true then (laws_FnExactCheckCircuit.j0 k true a0_0 l0_1 l0_2 bt112.1 bt112.2.1 bt112.2.2) else (laws_FnExactCheckCircuit.j0 k (bt120.2 != t111) a0_0 l0_1 l0_2 bt112.1 bt112.2.1 bt112.2.2)))) = some r := H
    have A10 := Aside0.mk A100
    clear A100
    replace H := Option.bind_eq_some_iff.mp H
    obtain ⟨⟨t112, t113, t116⟩, A110, H⟩ := H
    replace H : ((impl_CheckCircuit.f k t112 t113 t116 a1 a2).bind fun bt120 => (if (bt120.1 != t110) = true then (laws_FnExactCheckCircuit.j0 k true a0_0 l0_1 l0_2 t112 t113 t116) else (laws_FnExactCheckCircuit.j0 k (bt120.2 != t111) a0_0 l0_1 l0_2 t112 t113 t116))) = some r := H
    have A11 := Aside0.mk A110
    clear A110
    replace H := Option.bind_eq_some_iff.mp H
    obtain ⟨⟨t120, t121⟩, A120, H⟩ := H
    replace H : (if (t120 != t110) = true then (laws_FnExactCheckCircuit.j0 k true a0_0 l0_1 l0_2 t112 t113 t116) else (laws_FnExactCheckCircuit.j0 k (t121 != t111) a0_0 l0_1 l0_2 t112 t113 t116)) = some r := H
    have A12 := Aside0.mk A120
    clear A120
    have HC13 := Aside0.mk H
    clear H
    go_enter Try.func6, Try.ntmps6
    go_upto_region 8 with (first | ((with_reducible refine gate_dst (N := 3) rfl ?_); refine box_event ?hg (N := 3) ?hd (cs := #[.int .i8 a0_0, .slice A0_1 l0_1.length c0_1, .slice A0_2 l0_2.length c0_2]) (t := 26) ?hr ?_; (case hd => rfl); (case hg => rfl); (case hr => first | (go_simp; done) | (go_simp; rfl)); intro gb101 hg w14 hbox hb; have n0_ := Aside0.mk (below_step (by repeat (first | (with_reducible first | exact HB.out | apply below_alloc | apply pw_below_drewN | apply below_drew1) | exact HB.out)) hb); have n1_ := Aside0.mk (hbox); have n2_ := Aside0.mk ((by rw [hg]; exact (below_size (by repeat (first | (with_reducible first | exact HB.out | apply below_alloc | apply pw_below_drewN | apply below_drew1) | exact HB.out))) : w.heap.size ≤ gb101)); have n3_ := Aside0.mk ((by rw [hg]; exact (below_size (by repeat (first | (with_reducible first | exact HB.out | apply below_alloc | apply pw_below_drewN | apply below_drew1) | exact HB.out))) : w.heap.size ≤ gb101)); clear HB; have HB := n0_; have BK101 := n1_; have GW101 := n2_; have GE101 := n3_; clear n0_ n1_ n2_ n3_; clear hb hbox hg; have hcz15_0 : w14.cell? ⟨gb101, 0, none⟩ = some (.int .i8 a0_0) := (blk_cell BK101.out 0).trans rfl; have hcz15_1 : w14.cell? ⟨gb101, 1, none⟩ = some (.slice A0_1 l0_1.length c0_1) := (blk_cell BK101.out 1).trans rfl; have hcz15_2 : w14.cell? ⟨gb101, 2, none⟩ = some (.slice A0_2 l0_2.length c0_2) := (blk_cell BK101.out 2).trans rfl; have hfz15_0 := blk_frozen BK101.out 0; have hfz15_1 := blk_frozen BK101.out 1; have hfz15_2 := blk_frozen BK101.out 2) | ((with_reducible refine gate_callee (f := 9) rfl ?_); refine goesL_ (some 15) rfl rfl Try.func9 (by kernel_rfl) rfl #[.agg #[.int .i8 a0_0, .slice A0_1 l0_1.length c0_1, .slice A0_2 l0_2.length c0_2], .int .i64 1048576] rfl (by (try simp only [List.map_toArray, List.map_cons, List.map_nil]); first | done | rfl | (simp only [List.length_drop, List.length_take]; rfl)) ?_; (with_reducible refine (laws_szCircuit.calls a0_0 _ _ l0_1 _ _ l0_2 1048576 t102 _ ?side1 ?side2 ?side3 ?side4 A4.out).mono ?_); (case side1 => repeat (first | exact (Kd.C_below HR0_1.out HB.out) | (with_reducible refine Kd.C_alloc ?_ _) | (with_reducible refine Kd.C_drewN ?_ _) | (with_reducible refine Kd.C_drew ?_))); (case side2 => exact HC0_1.out); (case side3 => repeat (first | exact (Kd.C_below HR0_2.out HB.out) | (with_reducible refine Kd.C_alloc ?_ _) | (with_reducible refine Kd.C_drewN ?_ _) | (with_reducible refine Kd.C_drew ?_))); (case side4 => exact HC0_2.out); rintro e w16 ⟨rfl, hb⟩; refine ⟨_, rfl, ?_⟩; have n0_ := Aside0.mk (blk_below (g := gb101) (o := .cells #[.int .i8 a0_0, .slice A0_1 l0_1.length c0_1, .slice A0_2 l0_2.length c0_2] 26 (0, 0)) (by (with_reducible repeat (first | refine blk_drewN ?_ _ | refine blk_drew ?_ | refine blk_alloc ?_ _)); exact BK101.out) hb); have n1_ := Aside0.mk (below_step (by repeat (first | (with_reducible first | exact HB.out | apply below_alloc | apply pw_below_drewN | apply below_drew1 | refine below_set ?_ GE101.out) | exact HB.out)) hb); clear BK101; clear HB; have BK101 := n0_; have HB := n1_; clear n0_ n1_; (try clear hb); (try clear hb2); (try clear hk); (try clear hi); have hcz17_0 : w16.cell? ⟨gb101, 0, none⟩ = some (.int .i8 a0_0) := (blk_cell BK101.out 0).trans rfl; have hcz17_1 : w16.cell? ⟨gb101, 1, none⟩ = some (.slice A0_1 l0_1.length c0_1) := (blk_cell BK101.out 1).trans rfl; have hcz17_2 : w16.cell? ⟨gb101, 2, none⟩ = some (.slice A0_2 l0_2.length c0_2) := (blk_cell BK101.out 2).trans rfl; have hfz17_0 := blk_frozen BK101.out 0; have hfz17_1 := blk_frozen BK101.out 1; have hfz17_2 := blk_frozen BK101.out 2) | ((with_reducible refine gate_callee (f := 11) rfl ?_); refine goesL_ (some 20) rfl rfl Try.func11 (by kernel_rfl) rfl #[.agg #[.int .i8 a0_0, .slice A0_1 l0_1.length c0_1, .slice A0_2 l0_2.length c0_2]] rfl (by (try simp only [List.map_toArray, List.map_cons, List.map_nil]); first | done | rfl | (simp only [List.length_drop, List.length_take]; rfl)) ?_; (with_reducible refine (laws_toCircuit.calls k a0_0 _ _ l0_1 _ _ l0_2 t103 t104 t107 _ ?side1 ?side2 ?side3 ?side4 A9.out).mono ?_); (case side1 => repeat (first | exact (Kd.C_below HR0_1.out HB.out) | (with_reducible refine Kd.C_alloc ?_ _) | (with_reducible refine Kd.C_drewN ?_ _) | (with_reducible refine Kd.C_drew ?_))); (case side2 => exact HC0_1.out); (case side3 => repeat (first | exact (Kd.C_below HR0_2.out HB.out) | (with_reducible refine Kd.C_alloc ?_ _) | (with_reducible refine Kd.C_drewN ?_ _) | (with_reducible refine Kd.C_drew ?_))); (case side4 => exact HC0_2.out); rintro e w18 ⟨v105, v108, rfl, ho0, ho1, hb⟩; refine ⟨_, rfl, ?_⟩; have n0_ := Aside0.mk (Kd.R_lower ho0 (below_size (by repeat (first | (with_reducible first | exact HB.out | apply below_alloc | apply pw_below_drewN | apply below_drew1 | refine below_set ?_ GE101.out) | exact HB.out)))); have n1_ := Aside0.mk (Kd.R_lower ho1 (below_size (by repeat (first | (with_reducible first | exact HB.out | apply below_alloc | apply pw_below_drewN | apply below_drew1 | refine below_set ?_ GE101.out) | exact HB.out)))); have n2_ := Aside0.mk (blk_below (g := gb101) (o := .cells #[.int .i8 a0_0, .slice A0_1 l0_1.length c0_1, .slice A0_2 l0_2.length c0_2] 26 (0, 0)) (by (with_reducible repeat (first | refine blk_drewN ?_ _ | refine blk_drew ?_ | refine blk_alloc ?_ _)); exact BK101.out) hb); have n3_ := Aside0.mk (below_step (by repeat (first | (with_reducible first | exact HB.out | apply below_alloc | apply pw_below_drewN | apply below_drew1 | refine below_set ?_ GE101.out) | exact HB.out)) hb); clear BK101; clear HB; have HO106 := n0_; have HO109 := n1_; have BK101 := n2_; have HB := n3_; clear n0_ n1_ n2_ n3_; (try clear hb); (try clear hb2); (try clear hk); (try clear hi); (try clear ho0); (try clear ho1); obtain ⟨Ao19, co19, eo19⟩ := Kd.R_slice HO106.out; subst eo19; obtain ⟨Ao20, co20, eo20⟩ := Kd.R_slice HO109.out; subst eo20) | ((with_reducible refine gate_callee (f := 20) rfl ?_); refine goesL_ (some 23) rfl rfl Try.func20 (by kernel_rfl) rfl #[.agg #[.int .i8 t103, .slice Ao19 t104.length co19, .slice Ao20 t107.length co20], .int .i64 a1, .int .i64 a2] rfl (by (try simp only [List.map_toArray, List.map_cons, List.map_nil]); first | done | rfl | (simp only [List.length_drop, List.length_take]; rfl)) ?_; (with_reducible refine (spec_CheckCircuit.calls k t103 _ _ t104 _ _ t107 a1 a2 t110 t111 _ ?side1 ?side2 ?side3 ?side4 A10.out).mono ?_); (case side1 => repeat (first | exact (Kd.R_reads' HO106.out).2.2 | (with_reducible refine Kd.C_alloc ?_ _) | (with_reducible refine Kd.C_drewN ?_ _) | (with_reducible refine Kd.C_drew ?_))); (case side2 => exact (Kd.R_reads' HO106.out).2.1); (case side3 => repeat (first | exact (Kd.R_reads' HO109.out).2.2 | (with_reducible refine Kd.C_alloc ?_ _) | (with_reducible refine Kd.C_drewN ?_ _) | (with_reducible refine Kd.C_drew ?_))); (case side4 => exact (Kd.R_reads' HO109.out).2.1); rintro e w21 ⟨rfl, hb⟩; refine ⟨_, rfl, ?_⟩; have n0_ := Aside0.mk (Kd.R_below (by (with_reducible repeat (first | apply Kd.R_alloc | apply Kd.R_drewN | apply Kd.R_drew)); exact HO106.out) hb); have n1_ := Aside0.mk (Kd.R_below (by (with_reducible repeat (first | apply Kd.R_alloc | apply Kd.R_drewN | apply Kd.R_drew)); exact HO109.out) hb); have n2_ := Aside0.mk (blk_below (g := gb101) (o := .cells #[.int .i8 a0_0, .slice A0_1 l0_1.length c0_1, .slice A0_2 l0_2.length c0_2] 26 (0, 0)) (by (with_reducible repeat (first | refine blk_drewN ?_ _ | refine blk_drew ?_ | refine blk_alloc ?_ _)); exact BK101.out) hb); have n3_ := Aside0.mk (below_step (by repeat (first | (with_reducible first | exact HB.out | apply below_alloc | apply pw_below_drewN | apply below_drew1 | refine below_set ?_ GE101.out) | exact HB.out)) hb); clear HO106; clear HO109; clear BK101; clear HB; have HO106 := n0_; have HO109 := n1_; have BK101 := n2_; have HB := n3_; clear n0_ n1_ n2_ n3_; (try clear hb); (try clear hb2); (try clear hk); (try clear hi); have hcz22_0 : w21.cell? ⟨gb101, 0, none⟩ = some (.int .i8 a0_0) := (blk_cell BK101.out 0).trans rfl; have hcz22_1 : w21.cell? ⟨gb101, 1, none⟩ = some (.slice A0_1 l0_1.length c0_1) := (blk_cell BK101.out 1).trans rfl; have hcz22_2 : w21.cell? ⟨gb101, 2, none⟩ = some (.slice A0_2 l0_2.length c0_2) := (blk_cell BK101.out 2).trans rfl; have hfz22_0 := blk_frozen BK101.out 0; have hfz22_1 := blk_frozen BK101.out 1; have hfz22_2 := blk_frozen BK101.out 2) | ((with_reducible refine gate_callee (f := 11) rfl ?_); refine goesL_ (some 27) rfl rfl Try.func11 (by kernel_rfl) rfl #[.agg #[.int .i8 a0_0, .slice A0_1 l0_1.length c0_1, .slice A0_2 l0_2.length c0_2]] rfl (by (try simp only [List.map_toArray, List.map_cons, List.map_nil]); first | done | rfl | (simp only [List.length_drop, List.length_take]; rfl)) ?_; (with_reducible refine (laws_toCircuit.calls k a0_0 _ _ l0_1 _ _ l0_2 t112 t113 t116 _ ?side1 ?side2 ?side3 ?side4 A11.out).mono ?_); (case side1 => repeat (first | exact (Kd.C_below HR0_1.out HB.out) | (with_reducible refine Kd.C_alloc ?_ _) | (with_reducible refine Kd.C_drewN ?_ _) | (with_reducible refine Kd.C_drew ?_))); (case side2 => exact HC0_1.out); (case side3 => repeat (first | exact (Kd.C_below HR0_2.out HB.out) | (with_reducible refine Kd.C_alloc ?_ _) | (with_reducible refine Kd.C_drewN ?_ _) | (with_reducible refine Kd.C_drew ?_))); (case side4 => exact HC0_2.out); rintro e w23 ⟨v114, v117, rfl, ho0, ho1, hb⟩; refine ⟨_, rfl, ?_⟩; have n0_ := Aside0.mk (Kd.R_elder' (by (with_reducible repeat (first | apply Kd.R_alloc | apply Kd.R_drewN | apply Kd.R_drew)); exact HO106.out) (Kd.R_base ho0) hb); have n1_ := Aside0.mk (Kd.R_elder' (by (with_reducible repeat (first | apply Kd.R_alloc | apply Kd.R_drewN | apply Kd.R_drew)); exact HO109.out) (Kd.R_base ho1) hb); have n2_ := Aside0.mk (Kd.R_lower (Kd.R_new' ho0 (Kd.R_lt (by (with_reducible repeat (first | apply Kd.R_alloc | apply Kd.R_drewN | apply Kd.R_drew)); exact HO106.out))) (below_size (by repeat (first | (with_reducible first | exact HB.out | apply below_alloc | apply pw_below_drewN | apply below_drew1 | refine below_set ?_ GE101.out) | exact HB.out)))); have n3_ := Aside0.mk (Kd.R_lower (Kd.R_new' ho1 (Kd.R_lt (by (with_reducible repeat (first | apply Kd.R_alloc | apply Kd.R_drewN | apply Kd.R_drew)); exact HO109.out))) (below_size (by repeat (first | (with_reducible first | exact HB.out | apply below_alloc | apply pw_below_drewN | apply below_drew1 | refine below_set ?_ GE101.out) | exact HB.out)))); have n4_ := Aside0.mk (blk_below (g := gb101) (o := .cells #[.int .i8 a0_0, .slice A0_1 l0_1.length c0_1, .slice A0_2 l0_2.length c0_2] 26 (0, 0)) (by (with_reducible repeat (first | refine blk_drewN ?_ _ | refine blk_drew ?_ | refine blk_alloc ?_ _)); exact BK101.out) hb); have n5_ := Aside0.mk (below_step (by repeat (first | (with_reducible first | exact HB.out | apply below_alloc | apply pw_below_drewN | apply below_drew1 | refine below_set ?_ GE101.out) | exact HB.out)) hb); clear HO106; clear HO109; clear BK101; clear HB; have HO106 := n0_; have HO109 := n1_; have HO115 := n2_; have HO118 := n3_; have BK101 := n4_; have HB := n5_; clear n0_ n1_ n2_ n3_ n4_ n5_; (try clear hb); (try clear hb2); (try clear hk); (try clear hi); (try clear ho0); (try clear ho1)) | ((with_reducible refine gate_dst (N := 10) rfl ?_); refine box_event ?hg (N := 10) ?hd (cs := #[.int .i8 0, .slice none 0 0, .slice none 0 0]) (t := 30) ?hr ?_; (case hd => rfl); (case hg => rfl); (case hr => first | (go_simp; done) | (go_simp; rfl)); intro gb119 hg w24 hbox hb; have n0_ := Aside0.mk (Kd.R_below (by (with_reducible repeat (first | apply Kd.R_alloc | apply Kd.R_drewN | apply Kd.R_drew)); exact HO106.out) hb); have n1_ := Aside0.mk (Kd.R_below (by (with_reducible repeat (first | apply Kd.R_alloc | apply Kd.R_drewN | apply Kd.R_drew)); exact HO109.out) hb); have n2_ := Aside0.mk (Kd.R_below (by (with_reducible repeat (first | apply Kd.R_alloc | apply Kd.R_drewN | apply Kd.R_drew)); exact HO115.out) hb); have n3_ := Aside0.mk (Kd.R_below (by (with_reducible repeat (first | apply Kd.R_alloc | apply Kd.R_drewN | apply Kd.R_drew)); exact HO118.out) hb); have n4_ := Aside0.mk (blk_below (g := gb101) (o := .cells #[.int .i8 a0_0, .slice A0_1 l0_1.length c0_1, .slice A0_2 l0_2.length c0_2] 26 (0, 0)) (by (with_reducible repeat (first | refine blk_drewN ?_ _ | refine blk_drew ?_ | refine blk_alloc ?_ _)); exact BK101.out) hb); have n5_ := Aside0.mk (below_step (by repeat (first | (with_reducible first | exact HB.out | apply below_alloc | apply pw_below_drewN | apply below_drew1 | refine below_set ?_ GE101.out) | exact HB.out)) hb); have n6_ := Aside0.mk (hbox); have n7_ := Aside0.mk ((by rw [hg]; exact (below_size (by repeat (first | (with_reducible first | exact HB.out | apply below_alloc | apply pw_below_drewN | apply below_drew1 | refine below_set ?_ GE101.out) | exact HB.out))) : w.heap.size ≤ gb119)); have n8_ := Aside0.mk ((by rw [hg]; exact (below_size (by repeat (first | (with_reducible first | exact HB.out | apply below_alloc | apply pw_below_drewN | apply below_drew1 | refine below_set ?_ GE101.out) | exact HB.out))) : w.heap.size ≤ gb119)); have n9_ := Aside0.mk ((by rw [hg]; exact Nat.ne_of_lt (blk_lt (g := gb101) (o := .cells #[.int .i8 a0_0, .slice A0_1 l0_1.length c0_1, .slice A0_2 l0_2.length c0_2] 26 (0, 0)) (by (with_reducible repeat (first | refine blk_drewN ?_ _ | refine blk_drew ?_ | refine blk_alloc ?_ _)); exact BK101.out)) : gb101 ≠ gb119)); have n10_ := Aside0.mk ((by rw [hg]; exact Nat.ne_of_gt (blk_lt (g := gb101) (o := .cells #[.int .i8 a0_0, .slice A0_1 l0_1.length c0_1, .slice A0_2 l0_2.length c0_2] 26 (0, 0)) (by (with_reducible repeat (first | refine blk_drewN ?_ _ | refine blk_drew ?_ | refine blk_alloc ?_ _)); exact BK101.out)) : gb119 ≠ gb101)); clear HO106; clear HO109; clear HO115; clear HO118; clear BK101; clear HB; have HO106 := n0_; have HO109 := n1_; have HO115 := n2_; have HO118 := n3_; have BK101 := n4_; have HB := n5_; have BK119 := n6_; have GW119 := n7_; have GE119 := n8_; have NB101_119 := n9_; have NB119_101 := n10_; clear n0_ n1_ n2_ n3_ n4_ n5_ n6_ n7_ n8_ n9_ n10_; clear hb hbox hg; have hnb25 := NB119_101.out; have hnc25 := NB101_119.out; have hcz26_0 : w24.cell? ⟨gb119, 0, none⟩ = some (.int .i8 0) := (blk_cell BK119.out 0).trans rfl; have hcz26_1 : w24.cell? ⟨gb119, 1, none⟩ = some (.slice none 0 0) := (blk_cell BK119.out 1).trans rfl; have hcz26_2 : w24.cell? ⟨gb119, 2, none⟩ = some (.slice none 0 0) := (blk_cell BK119.out 2).trans rfl; have hfz26_0 := blk_frozen BK119.out 0; have hfz26_1 := blk_frozen BK119.out 1; have hfz26_2 := blk_frozen BK119.out 2; obtain ⟨Ao27, co27, eo27⟩ := Kd.R_slice HO115.out; subst eo27; obtain ⟨Ao28, co28, eo28⟩ := Kd.R_slice HO118.out; subst eo28) | ((with_reducible refine gate_callee (f := 21) rfl ?_); refine goesL_ (some 32) rfl rfl Try.func21 (by kernel_rfl) rfl #[.agg #[.int .i8 t112, .slice Ao27 t113.length co27, .slice Ao28 t116.length co28], .int .i64 a1, .int .i64 a2] rfl (by (try simp only [List.map_toArray, List.map_cons, List.map_nil]); first | done | rfl | (simp only [List.length_drop, List.length_take]; rfl)) ?_; (with_reducible refine (impl_CheckCircuit.calls k t112 _ _ t113 _ _ t116 a1 a2 t120 t121 _ ?side1 ?side2 ?side3 ?side4 A12.out).mono ?_); (case side1 => refine (Kd.R_reads' (e := 68) (base := w.heap.size) (ok := fun k_ => (True ∧ some k_ ≠ (.slice Ao19 t104.length co19 : Value).ownBlock)) (n := t113.length) (c := co27) ?_).2.2; exact (by (with_reducible repeat (first | apply Kd.R_alloc | apply Kd.R_drewN | apply Kd.R_drew)); exact (Kd.R_mono (Kd.R_far (p := ⟨gb119, 2, none⟩) (Kd.R_far (p := ⟨gb119, 1, none⟩) (Kd.R_far (p := ⟨gb119, 0, none⟩) (Kd.R_types HO115.out BK119.out (by decide)) (fun _ hk => hk.2) (.int .i8 t112)) (fun _ hk => hk.2) (.slice Ao27 t113.length co27)) (fun _ hk => hk.2) (.slice Ao28 t116.length co28)) (fun _ h_ => h_.1)))); (case side2 => exact (Kd.R_reads' HO115.out).2.1); (case side3 => refine (Kd.R_reads' (e := 66) (base := w.heap.size) (ok := fun k_ => (True ∧ some k_ ≠ (.slice Ao20 t107.length co20 : Value).ownBlock)) (n := t116.length) (c := co28) ?_).2.2; exact (by (with_reducible repeat (first | apply Kd.R_alloc | apply Kd.R_drewN | apply Kd.R_drew)); exact (Kd.R_mono (Kd.R_far (p := ⟨gb119, 2, none⟩) (Kd.R_far (p := ⟨gb119, 1, none⟩) (Kd.R_far (p := ⟨gb119, 0, none⟩) (Kd.R_types HO118.out BK119.out (by decide)) (fun _ hk => hk.2) (.int .i8 t112)) (fun _ hk => hk.2) (.slice Ao27 t113.length co27)) (fun _ hk => hk.2) (.slice Ao28 t116.length co28)) (fun _ h_ => h_.1)))); (case side4 => exact (Kd.R_reads' HO118.out).2.1); rintro e w29 ⟨rfl, hb⟩; refine ⟨_, rfl, ?_⟩; have n0_ := Aside0.mk (Kd.R_below (by (with_reducible repeat (first | apply Kd.R_alloc | apply Kd.R_drewN | apply Kd.R_drew)); exact (Kd.R_mono (Kd.R_far (p := ⟨gb119, 2, none⟩) (Kd.R_far (p := ⟨gb119, 1, none⟩) (Kd.R_far (p := ⟨gb119, 0, none⟩) (Kd.R_types HO106.out BK119.out (by decide)) (fun _ hk => hk.2) (.int .i8 t112)) (fun _ hk => hk.2) (.slice Ao27 t113.length co27)) (fun _ hk => hk.2) (.slice Ao28 t116.length co28)) (fun _ h_ => h_.1))) hb); have n1_ := Aside0.mk (Kd.R_below (by (with_reducible repeat (first | apply Kd.R_alloc | apply Kd.R_drewN | apply Kd.R_drew)); exact (Kd.R_mono (Kd.R_far (p := ⟨gb119, 2, none⟩) (Kd.R_far (p := ⟨gb119, 1, none⟩) (Kd.R_far (p := ⟨gb119, 0, none⟩) (Kd.R_types HO109.out BK119.out (by decide)) (fun _ hk => hk.2) (.int .i8 t112)) (fun _ hk => hk.2) (.slice Ao27 t113.length co27)) (fun _ hk => hk.2) (.slice Ao28 t116.length co28)) (fun _ h_ => h_.1))) hb); have n2_ := Aside0.mk (Kd.R_below (by (with_reducible repeat (first | apply Kd.R_alloc | apply Kd.R_drewN | apply Kd.R_drew)); exact (Kd.R_mono (Kd.R_far (p := ⟨gb119, 2, none⟩) (Kd.R_far (p := ⟨gb119, 1, none⟩) (Kd.R_far (p := ⟨gb119, 0, none⟩) (Kd.R_types HO115.out BK119.out (by decide)) (fun _ hk => hk.2) (.int .i8 t112)) (fun _ hk => hk.2) (.slice Ao27 t113.length co27)) (fun _ hk => hk.2) (.slice Ao28 t116.length co28)) (fun _ h_ => h_.1))) hb); have n3_ := Aside0.mk (Kd.R_below (by (with_reducible repeat (first | apply Kd.R_alloc | apply Kd.R_drewN | apply Kd.R_drew)); exact (Kd.R_mono (Kd.R_far (p := ⟨gb119, 2, none⟩) (Kd.R_far (p := ⟨gb119, 1, none⟩) (Kd.R_far (p := ⟨gb119, 0, none⟩) (Kd.R_types HO118.out BK119.out (by decide)) (fun _ hk => hk.2) (.int .i8 t112)) (fun _ hk => hk.2) (.slice Ao27 t113.length co27)) (fun _ hk => hk.2) (.slice Ao28 t116.length co28)) (fun _ h_ => h_.1))) hb); have n4_ := Aside0.mk (blk_below (g := gb101) (o := .cells #[.int .i8 a0_0, .slice A0_1 l0_1.length c0_1, .slice A0_2 l0_2.length c0_2] 26 (0, 0)) (by (with_reducible repeat (first | refine blk_drewN ?_ _ | refine blk_drew ?_ | refine blk_alloc ?_ _)); refine blk_far ?_ NB101_119.out _; (with_reducible repeat (first | refine blk_drewN ?_ _ | refine blk_drew ?_ | refine blk_alloc ?_ _)); refine blk_far ?_ NB101_119.out _; (with_reducible repeat (first | refine blk_drewN ?_ _ | refine blk_drew ?_ | refine blk_alloc ?_ _)); refine blk_far ?_ NB101_119.out _; (with_reducible repeat (first | refine blk_drewN ?_ _ | refine blk_drew ?_ | refine blk_alloc ?_ _)); exact BK101.out) hb); have n5_ := Aside0.mk (blk_below (g := gb119) (o := .cells #[.int .i8 t112, .slice Ao27 t113.length co27, .slice Ao28 t116.length co28] 30 (0, 0)) (by (with_reducible repeat (first | refine blk_drewN ?_ _ | refine blk_drew ?_ | refine blk_alloc ?_ _)); refine blk_put (cs := #[.int .i8 t112, .slice Ao27 t113.length co27, .slice none 0 0]) ?_ 2 _ rfl; (with_reducible repeat (first | refine blk_drewN ?_ _ | refine blk_drew ?_ | refine blk_alloc ?_ _)); refine blk_put (cs := #[.int .i8 t112, .slice none 0 0, .slice none 0 0]) ?_ 1 _ rfl; (with_reducible repeat (first | refine blk_drewN ?_ _ | refine blk_drew ?_ | refine blk_alloc ?_ _)); refine blk_put (cs := #[.int .i8 0, .slice none 0 0, .slice none 0 0]) ?_ 0 _ rfl; (with_reducible repeat (first | refine blk_drewN ?_ _ | refine blk_drew ?_ | refine blk_alloc ?_ _)); exact BK119.out) hb); have n6_ := Aside0.mk (below_step (by repeat (first | (with_reducible first | exact HB.out | apply below_alloc | apply pw_below_drewN | apply below_drew1 | refine below_set ?_ GE101.out | refine below_set ?_ GE119.out) | exact HB.out)) hb); clear HO106; clear HO109; clear HO115; clear HO118; clear BK101; clear BK119; clear HB; have HO106 := n0_; have HO109 := n1_; have HO115 := n2_; have HO118 := n3_; have BK101 := n4_; have BK119 := n5_; have HB := n6_; clear n0_ n1_ n2_ n3_ n4_ n5_ n6_; (try clear hb); (try clear hb2); (try clear hk); (try clear hi)))
    (try simp only [Act.put, List.setIfInBounds_toArray, List.set_cons_zero, List.set_cons_succ])
    go_cut [42] (fun v42 wc => ∃ (kq : Nat) (x42_12 : Bool), v42 = .bool x42_12 ∧ Aside0 (laws_FnExactCheckCircuit.j0 kq x42_12 a0_0 l0_1 l0_2 t112 t113 t116 = some r) ∧ Aside0 (kq ≤ k) ∧ Aside0 (Kd.R k68 68 wc w.heap.size (fun _ => True) (.slice Ao27 t113.length co27) t113) ∧ Aside0 (Kd.R (Kd.int .i16) 66 wc w.heap.size (fun _ => True) (.slice Ao28 t116.length co28) t116) ∧ Aside0 (wc.heap[gb101]? = some (.cells #[.int .i8 a0_0, (.slice A0_1 l0_1.length c0_1), (.slice A0_2 l0_2.length c0_2)] 26 (0, 0))) ∧ Aside0 (wc.heap[gb119]? = some (.cells #[.int .i8 t112, (.slice Ao27 t113.length co27), (.slice Ao28 t116.length co28)] 30 (0, 0))) ∧ Aside0 (Below w.heap.size w wc))
    case first =>
      have H := HC13.out
      clear HC13
      by_cases c30 : (t120 != t110) = true
      · rw [if_pos c30] at H
        have c30b0 : (t120 != t110) = true := c30
        (try (have c30b1 : decide (t120 = t110) = false := by simpa using c30))
        (try (have c30b2 : (t120 == t110) = false := by simpa using c30))
        (try (have c30b3 : ¬ (t120 = t110) := by simpa using c30))
        clear c30
        (first | rw [c30b0] | (simp only [i64_w, i32_w]; rw [c30b0]) | skip)
        have H' := Aside0.mk H
        clear H
        go_wp2
        go_meet
        case rel => exact ⟨_, (true), (by first | rfl | (simp; done) | (simp [*]; done)), H', ⟨by first | omega | exact Nat.le_refl _⟩, ⟨by (with_reducible repeat (first | apply Kd.R_alloc | apply Kd.R_drewN | apply Kd.R_drew)); exact Kd.R_mono HO115.out (fun _ hk => trivial)⟩, ⟨by (with_reducible repeat (first | apply Kd.R_alloc | apply Kd.R_drewN | apply Kd.R_drew)); exact Kd.R_mono HO118.out (fun _ hk => trivial)⟩, ⟨by (with_reducible repeat (first | refine blk_drewN ?_ _ | refine blk_drew ?_ | refine blk_alloc ?_ _)); exact BK101.out⟩, ⟨by (with_reducible repeat (first | refine blk_drewN ?_ _ | refine blk_drew ?_ | refine blk_alloc ?_ _)); exact BK119.out⟩, ⟨by repeat (first | (with_reducible first | exact HB.out | apply below_alloc | apply pw_below_drewN | apply below_drew1 | refine below_set ?_ GE101.out | refine below_set ?_ GE119.out) | exact HB.out)⟩⟩
      · rw [if_neg c30] at H
        have c30b0 : (t120 != t110) = false := by simpa using c30
        (try (have c30b1 : decide (t120 = t110) = true := by simpa using c30))
        (try (have c30b2 : (t120 == t110) = true := by simpa using c30))
        clear c30
        (first | rw [c30b0] | (simp only [i64_w, i32_w]; rw [c30b0]) | skip)
        have H' := Aside0.mk H
        clear H
        go_wp2
        go_meet
        case rel => exact ⟨_, ((t121 != t111)), (by first | rfl | (simp; done) | (simp [*]; done)), H', ⟨by first | omega | exact Nat.le_refl _⟩, ⟨by (with_reducible repeat (first | apply Kd.R_alloc | apply Kd.R_drewN | apply Kd.R_drew)); exact Kd.R_mono HO115.out (fun _ hk => trivial)⟩, ⟨by (with_reducible repeat (first | apply Kd.R_alloc | apply Kd.R_drewN | apply Kd.R_drew)); exact Kd.R_mono HO118.out (fun _ hk => trivial)⟩, ⟨by (with_reducible repeat (first | refine blk_drewN ?_ _ | refine blk_drew ?_ | refine blk_alloc ?_ _)); exact BK101.out⟩, ⟨by (with_reducible repeat (first | refine blk_drewN ?_ _ | refine blk_drew ?_ | refine blk_alloc ?_ _)); exact BK119.out⟩, ⟨by repeat (first | (with_reducible first | exact HB.out | apply below_alloc | apply pw_below_drewN | apply below_drew1 | refine below_set ?_ GE101.out | refine below_set ?_ GE119.out) | exact HB.out)⟩⟩
    case rest =>
      clear HC13
      try clear c1
      try clear c2
      try clear p2
      try clear c3
      try clear c5
      try clear c5b0
      try clear c6
      try clear c9
      try clear c11
      try clear c20
      try clear c21
      try clear c25
      try clear c30
      try clear c30b0
      try clear c30b1
      try clear c30b2
      try clear hcz15_0
      try clear hcz15_1
      try clear hcz15_2
      try clear hcz17_0
      try clear hcz17_1
      try clear hcz17_2
      try clear hcz22_0
      try clear hcz22_1
      try clear hcz22_2
      try clear hcz26_0
      try clear hcz26_1
      try clear hcz26_2
      try clear hcz7_0
      try clear hcz7_1
      try clear hcz7_2
      try clear hfz15_0
      try clear hfz15_1
      try clear hfz15_2
      try clear hfz17_0
      try clear hfz17_1
      try clear hfz17_2
      try clear hfz22_0
      try clear hfz22_1
      try clear hfz22_2
      try clear hfz26_0
      try clear hfz26_1
      try clear hfz26_2
      try clear hfz7_0
      try clear hfz7_1
      try clear hfz7_2
      obtain ⟨kq, x42_12, rfl, HA, HJ12, HO_120001, HO_120002, BK101, BK119, HB⟩ := hcut
      cases kq with
      | zero => exact absurd HA.out (by simp [laws_FnExactCheckCircuit.j0])
      | succ kj12 =>
        have H := HA.out
        clear HA
        simp only [laws_FnExactCheckCircuit.j0] at H
        by_cases c31 : x42_12 = true
        · subst c31
          have H1 : (none) = some r := by rw [if_pos rfl] at H; exact H
          clear H
          have H := H1
          clear H1
          exact absurd H (by simp)
        · replace c31 := Bool.eq_false_iff.mpr c31
          subst c31
          have H1 : ((laws_toCircuit.f kj12 a0_0 l0_1 l0_2).bind fun bt122 => ((laws_eqCircuit.f kj12 t112 t113 t116 bt122.1 bt122.2.1 bt122.2.2).bind fun t129 => (if t129 = true then (some true) else (none)))) = some r := by rw [if_neg (show ¬ (false = true) by decide)] at H; exact H
          clear H
          have H := H1
          clear H1
          replace H := Option.bind_eq_some_iff.mp H
          obtain ⟨⟨t122, t123, t126⟩, A320, H⟩ := H
          replace H : ((laws_eqCircuit.f kj12 t112 t113 t116 t122 t123 t126).bind fun t129 => (if t129 = true then (some true) else (none))) = some r := H
          have A32 := Aside0.mk A320
          clear A320
          replace H := Option.bind_eq_some_iff.mp H
          obtain ⟨t129, A330, H⟩ := H
          replace H : (if t129 = true then (some true) else (none)) = some r := H
          have A33 := Aside0.mk A330
          clear A330
          by_cases c34 : t129 = true
          · subst c34
            have H1 : (some true) = some r := by rw [if_pos rfl] at H; exact H
            clear H
            have H := H1
            clear H1
            obtain rfl := Option.some.inj H
            try go_wp2
            have n0_ := Aside0.mk (Kd.R_drew HO_120001.out)
            have n1_ := Aside0.mk (Kd.R_drew HO_120002.out)
            have n2_ := Aside0.mk (blk_drew BK101.out)
            have n3_ := Aside0.mk (blk_drew BK119.out)
            have n4_ := Aside0.mk (below_drew1 HB.out)
            clear HO_120001
            clear HO_120002
            clear BK101
            clear BK119
            clear HB
            have HO_120001 := n0_
            have HO_120002 := n1_
            have BK101 := n2_
            have BK119 := n3_
            have HB := n4_
            clear n0_ n1_ n2_ n3_ n4_
            refine start_ (n := 5) (S := fun w' => w'.cell? ⟨gb119, 0, none⟩ = some (.int .i8 t112) ∧ w'.cell? ⟨gb119, 1, none⟩ = some (.slice Ao27 t113.length co27) ∧ w'.cell? ⟨gb119, 2, none⟩ = some (.slice Ao28 t116.length co28) ∧ w'.cell? ⟨gb101, 0, none⟩ = some (.int .i8 a0_0) ∧ w'.cell? ⟨gb101, 1, none⟩ = some (.slice A0_1 l0_1.length c0_1) ∧ w'.cell? ⟨gb101, 2, none⟩ = some (.slice A0_2 l0_2.length c0_2)) (ds := []) #[false, false, false, false, false] (by kernel_rfl) rfl rfl ⟨(blk_cell BK119.out 0).trans rfl, (blk_cell BK119.out 1).trans rfl, (blk_cell BK119.out 2).trans rfl, (blk_cell BK101.out 0).trans rfl, (blk_cell BK101.out 1).trans rfl, (blk_cell BK101.out 2).trans rfl⟩ (fun hHeld => ?_)
            generalize wc.drew = w35 at HO_120001 HO_120002 BK101 BK119 HB hHeld ⊢
            refine take_ (i := 0) (N := some 43) (v := ?_) (a' := ?_) #[true, false, false, false, false] rfl rfl (by kernel_rfl) (fun _ _ _ h => h) (Or.inl ⟨by rfl, ?_⟩) hHeld ?_ ?_
            rotate_left
            · rintro w' ⟨s0, s1, s2, s3, s4, s5⟩
              go_simp
              with_reducible rfl
            rotate_left
            · simp only [Act.put, List.setIfInBounds_toArray, List.set_cons_zero, List.set_cons_succ, i64_w, i32_w]
              rfl
            refine take_ (i := 1) (N := some 44) (v := ?_) (a' := ?_) #[true, true, false, false, false] rfl rfl (by kernel_rfl) (fun _ _ _ h => h) (Or.inl ⟨by rfl, ?_⟩) hHeld ?_ ?_
            rotate_left
            · rintro w' ⟨s0, s1, s2, s3, s4, s5⟩
              go_simp
              with_reducible rfl
            rotate_left
            · simp only [Act.put, List.setIfInBounds_toArray, List.set_cons_zero, List.set_cons_succ, i64_w, i32_w]
              rfl
            refine one_ (i := 2) (N := some 45) #[true, true, true, false, false] rfl rfl (by kernel_rfl) (by decide) (fun K hK => ?_)
            refine goes_ Try.func11 (by kernel_rfl) rfl #[.agg #[.int .i8 a0_0, .slice A0_1 l0_1.length c0_1, .slice A0_2 l0_2.length c0_2]] (by rfl) rfl rfl (by (try simp only [List.map_toArray, List.map_cons, List.map_nil]); first | done | rfl | (simp only [List.length_drop, List.length_take]; rfl)) ?_
            with_reducible refine (laws_toCircuit.calls kj12 a0_0 _ _ l0_1 _ _ l0_2 t122 t123 t126 _ ?side1 ?side2 ?side3 ?side4 A32.out).mono ?_
            (case side1 => repeat (first | exact (Kd.C_below HR0_1.out HB.out) | (with_reducible refine Kd.C_alloc ?_ _) | (with_reducible refine Kd.C_drewN ?_ _) | (with_reducible refine Kd.C_drew ?_)))
            (case side2 => exact HC0_1.out)
            (case side3 => repeat (first | exact (Kd.C_below HR0_2.out HB.out) | (with_reducible refine Kd.C_alloc ?_ _) | (with_reducible refine Kd.C_drewN ?_ _) | (with_reducible refine Kd.C_drew ?_)))
            (case side4 => exact HC0_2.out)
            rintro e w36 ⟨v124, v127, rfl, ho0, ho1, hb⟩
            refine ⟨_, rfl, ?_⟩
            have n0_ := Aside0.mk (Kd.R_elder' (by (with_reducible repeat (first | apply Kd.R_alloc | apply Kd.R_drewN | apply Kd.R_drew)); exact HO_120001.out) (Kd.R_base ho0) hb)
            have n1_ := Aside0.mk (Kd.R_elder' (by (with_reducible repeat (first | apply Kd.R_alloc | apply Kd.R_drewN | apply Kd.R_drew)); exact HO_120002.out) (Kd.R_base ho1) hb)
            have n2_ := Aside0.mk (Kd.R_lower (Kd.R_new' ho0 (Kd.R_lt (by (with_reducible repeat (first | apply Kd.R_alloc | apply Kd.R_drewN | apply Kd.R_drew)); exact HO_120001.out))) (below_size (by repeat (first | (with_reducible first | exact HB.out | apply below_alloc | apply pw_below_drewN | apply below_drew1 | refine below_set ?_ GE101.out | refine below_set ?_ GE119.out) | exact HB.out))))
            have n3_ := Aside0.mk (Kd.R_lower (Kd.R_new' ho1 (Kd.R_lt (by (with_reducible repeat (first | apply Kd.R_alloc | apply Kd.R_drewN | apply Kd.R_drew)); exact HO_120002.out))) (below_size (by repeat (first | (with_reducible first | exact HB.out | apply below_alloc | apply pw_below_drewN | apply below_drew1 | refine below_set ?_ GE101.out | refine below_set ?_ GE119.out) | exact HB.out))))
            have n4_ := Aside0.mk (blk_below (g := gb101) (o := .cells #[.int .i8 a0_0, .slice A0_1 l0_1.length c0_1, .slice A0_2 l0_2.length c0_2] 26 (0, 0)) (by (with_reducible repeat (first | refine blk_drewN ?_ _ | refine blk_drew ?_ | refine blk_alloc ?_ _)); exact BK101.out) hb)
            have n5_ := Aside0.mk (blk_below (g := gb119) (o := .cells #[.int .i8 t112, .slice Ao27 t113.length co27, .slice Ao28 t116.length co28] 30 (0, 0)) (by (with_reducible repeat (first | refine blk_drewN ?_ _ | refine blk_drew ?_ | refine blk_alloc ?_ _)); exact BK119.out) hb)
            have n6_ := Aside0.mk (below_step (by repeat (first | (with_reducible first | exact HB.out | apply below_alloc | apply pw_below_drewN | apply below_drew1 | refine below_set ?_ GE101.out | refine below_set ?_ GE119.out) | exact HB.out)) hb)
            clear HO_120001
            clear HO_120002
            clear BK101
            clear BK119
            clear HB
            have HO_120001 := n0_
            have HO_120002 := n1_
            have HO125 := n2_
            have HO128 := n3_
            have BK101 := n4_
            have BK119 := n5_
            have HB := n6_
            clear n0_ n1_ n2_ n3_ n4_ n5_ n6_
            (try clear hb)
            (try clear hb2)
            (try clear hk)
            (try clear hi)
            (try clear ho0)
            (try clear ho1)
            obtain ⟨Ao37, co37, eo37⟩ := Kd.R_slice HO125.out
            (first | subst eo37 | (injection eo37 with f1_ f2_ f3_; have f4_ := f1_.symm; have f5_ := f3_.symm; clear f1_ f2_ f3_; subst f4_; subst f5_))
            obtain ⟨Ao38, co38, eo38⟩ := Kd.R_slice HO128.out
            (first | subst eo38 | (injection eo38 with f1_ f2_ f3_; have f4_ := f1_.symm; have f5_ := f3_.symm; clear f1_ f2_ f3_; subst f4_; subst f5_))
            refine hK.out _ _ ⟨(blk_cell BK119.out 0).trans rfl, (blk_cell BK119.out 1).trans rfl, (blk_cell BK119.out 2).trans rfl, (blk_cell BK101.out 0).trans rfl, (blk_cell BK101.out 1).trans rfl, (blk_cell BK101.out 2).trans rfl⟩ (fun hHeld => ?_)
            clear hK K
            refine norm_ (a' := ?_) ?_ ?_
            rotate_left
            · show Act.put _ (some 45) _ = _
              simp only [Act.put, List.setIfInBounds_toArray, List.set_cons_zero, List.set_cons_succ, i64_w, i32_w]
              rfl
            refine one_ (i := 3) (N := some 46) #[true, true, true, true, false] rfl rfl (by kernel_rfl) (by decide) (fun K hK => ?_)
            refine goes_ Try.func13 (by kernel_rfl) rfl #[.agg #[.int .i8 t112, .slice Ao27 t113.length co27, .slice Ao28 t116.length co28], .agg #[.int .i8 t122, .slice Ao37 t123.length co37, .slice Ao38 t126.length co38]] (by rfl) rfl rfl (by (try simp only [List.map_toArray, List.map_cons, List.map_nil]); first | done | rfl | (simp only [List.length_drop, List.length_take]; rfl)) ?_
            with_reducible refine (laws_eqCircuit.calls kj12 t112 _ _ t113 _ _ t116 t122 _ _ t123 _ _ t126 true _ ?side1 ?side2 ?side3 ?side4 ?side5 ?side6 ?side7 ?side8 A33.out).mono ?_
            (case side1 => repeat (first | exact (Kd.R_reads' HO_120001.out).2.2 | (with_reducible refine Kd.C_alloc ?_ _) | (with_reducible refine Kd.C_drewN ?_ _) | (with_reducible refine Kd.C_drew ?_)))
            (case side2 => exact (Kd.R_reads' HO_120001.out).2.1)
            (case side3 => repeat (first | exact (Kd.R_reads' HO_120002.out).2.2 | (with_reducible refine Kd.C_alloc ?_ _) | (with_reducible refine Kd.C_drewN ?_ _) | (with_reducible refine Kd.C_drew ?_)))
            (case side4 => exact (Kd.R_reads' HO_120002.out).2.1)
            (case side5 => repeat (first | exact (Kd.R_reads' HO125.out).2.2 | (with_reducible refine Kd.C_alloc ?_ _) | (with_reducible refine Kd.C_drewN ?_ _) | (with_reducible refine Kd.C_drew ?_)))
            (case side6 => exact (Kd.R_reads' HO125.out).2.1)
            (case side7 => repeat (first | exact (Kd.R_reads' HO128.out).2.2 | (with_reducible refine Kd.C_alloc ?_ _) | (with_reducible refine Kd.C_drewN ?_ _) | (with_reducible refine Kd.C_drew ?_)))
            (case side8 => exact (Kd.R_reads' HO128.out).2.1)
            rintro e w39 ⟨rfl, hb⟩
            refine ⟨_, rfl, ?_⟩
            have n0_ := Aside0.mk (Kd.R_below (by (with_reducible repeat (first | apply Kd.R_alloc | apply Kd.R_drewN | apply Kd.R_drew)); exact HO_120001.out) hb)
            have n1_ := Aside0.mk (Kd.R_below (by (with_reducible repeat (first | apply Kd.R_alloc | apply Kd.R_drewN | apply Kd.R_drew)); exact HO_120002.out) hb)
            have n2_ := Aside0.mk (Kd.R_below (by (with_reducible repeat (first | apply Kd.R_alloc | apply Kd.R_drewN | apply Kd.R_drew)); exact HO125.out) hb)
            have n3_ := Aside0.mk (Kd.R_below (by (with_reducible repeat (first | apply Kd.R_alloc | apply Kd.R_drewN | apply Kd.R_drew)); exact HO128.out) hb)
            have n4_ := Aside0.mk (blk_below (g := gb101) (o := .cells #[.int .i8 a0_0, .slice A0_1 l0_1.length c0_1, .slice A0_2 l0_2.length c0_2] 26 (0, 0)) (by (with_reducible repeat (first | refine blk_drewN ?_ _ | refine blk_drew ?_ | refine blk_alloc ?_ _)); exact BK101.out) hb)
            have n5_ := Aside0.mk (blk_below (g := gb119) (o := .cells #[.int .i8 t112, .slice Ao27 t113.length co27, .slice Ao28 t116.length co28] 30 (0, 0)) (by (with_reducible repeat (first | refine blk_drewN ?_ _ | refine blk_drew ?_ | refine blk_alloc ?_ _)); exact BK119.out) hb)
            have n6_ := Aside0.mk (below_step (by repeat (first | (with_reducible first | exact HB.out | apply below_alloc | apply pw_below_drewN | apply below_drew1 | refine below_set ?_ GE101.out | refine below_set ?_ GE119.out) | exact HB.out)) hb)
            clear HO_120001
            clear HO_120002
            clear HO125
            clear HO128
            clear BK101
            clear BK119
            clear HB
            have HO_120001 := n0_
            have HO_120002 := n1_
            have HO125 := n2_
            have HO128 := n3_
            have BK101 := n4_
            have BK119 := n5_
            have HB := n6_
            clear n0_ n1_ n2_ n3_ n4_ n5_ n6_
            (try clear hb)
            (try clear hb2)
            (try clear hk)
            (try clear hi)
            refine hK.out _ _ ⟨(blk_cell BK119.out 0).trans rfl, (blk_cell BK119.out 1).trans rfl, (blk_cell BK119.out 2).trans rfl, (blk_cell BK101.out 0).trans rfl, (blk_cell BK101.out 1).trans rfl, (blk_cell BK101.out 2).trans rfl⟩ (fun hHeld => ?_)
            clear hK K
            refine norm_ (a' := ?_) ?_ ?_
            rotate_left
            · show Act.put _ (some 46) _ = _
              simp only [Act.put, List.setIfInBounds_toArray, List.set_cons_zero, List.set_cons_succ, i64_w, i32_w]
              rfl
            refine pure_ (i := 4) (N := some 47) (v := ?_) (a' := ?_) #[true, true, true, true, true] rfl rfl (by kernel_rfl) (fun _ _ _ h => h) (Or.inl ⟨by rfl, ?_⟩) ?_ ?_
            rotate_left
            · intro w'
              go_simp
              with_reducible rfl
            rotate_left
            · simp only [Act.put, List.setIfInBounds_toArray, List.set_cons_zero, List.set_cons_succ, i64_w, i32_w]
              rfl
            refine done_ (by kernel_rfl) ?_
            try go_wp2
            go_ret
            exact ⟨by first | rfl | (simp [errW_none, errW_some] <;> rfl) | (simp [*, errW_none, errW_some] <;> rfl), by repeat (first | (with_reducible first | exact HB.out | apply below_alloc | apply pw_below_drewN | apply below_drew1 | refine below_set ?_ GE101.out | refine below_set ?_ GE119.out) | exact HB.out)⟩
          · replace c34 := Bool.eq_false_iff.mpr c34
            subst c34
            have H1 : (none) = some r := by rw [if_neg (show ¬ (false = true) by decide)] at H; exact H
            clear H
            have H := H1
            clear H1
            exact absurd H (by simp)
def laws_FnExactCheckCircuit.Pure : Prop := ∀ (a0_0 : Int) (l0_1 : List (S114)) (l0_2 : List Int) (a1 : Int) (a2 : Int), (Lit.int .i8 a0_0).wf = true → l0_1.length ≤ maxLen → (∀ x ∈ l0_1, (Lit.int .i8 x.f0).wf = true ∧ (Lit.int .i16 x.f1).wf = true ∧ (Lit.int .i16 x.f2).wf = true) → l0_2.length ≤ maxLen → (∀ x ∈ l0_2, (Lit.int .i16 x).wf = true) → (Lit.int .i64 a1).wf = true → (Lit.int .i64 a2).wf = true → ∃ k, laws_FnExactCheckCircuit.f k a0_0 l0_1 l0_2 a1 a2 = some true
end Go.Proofs.Yteanndgkjoinmaa.X

namespace Go.Proofs.Yteanndgkjoinmaa.X
open Go.RowKit Go.Proofs.YteanndgkjoinmaaW.PrintWords Go.Proofs.YteanndgkjoinmaaW.PrintLast
theorem w64_in {x : Int} (h : -9223372036854775808 ≤ x) (h2 : x ≤ 9223372036854775807) : wrap64 x = x := by unfold wrap64; omega
theorem ev_pos {α : Type} {c : Prop} [Decidable c] {g f : Nat → Option α} {r : α} (h : c) (e : Ev g r) : Ev (fun k => if c then g k else f k) r := Ev.congr (fun _ => if_pos h) e
theorem ev_neg {α : Type} {c : Prop} [Decidable c] {g f : Nat → Option α} {r : α} (h : ¬ c) (e : Ev f r) : Ev (fun k => if c then g k else f k) r := Ev.congr (fun _ => if_neg h) e
theorem ev_some {α β : Type} {g : Option α} {f : Nat → α → Option β} {a : α} {r : β} (h : g = some a) (e : Ev (fun n => f n a) r) : Ev (fun n => g.bind (f n)) r := Ev.bind (g := fun _ => g) ⟨0, fun _ _ => h⟩ e
theorem take_succ_set {α : Type} (xs : List α) (i : Nat) (v : α) (h : i < xs.length) : (xs.set i v).take (i + 1) = xs.take i ++ [v] := by
  rw [List.take_succ_eq_append_getElem (by simpa using h)]
  simp [List.take_set_of_le]
theorem take_succ_map {α β : Type} (f : α → β) (xs : List α) (i : Nat) (d : α) (h : i < xs.length) : (xs.map f).take (i + 1) = (xs.map f).take i ++ [f (xs.getD i d)] := by
  rw [List.take_succ_eq_append_getElem (by simpa using h)]
  simp [List.getD_eq_getElem?_getD, List.getElem?_eq_getElem h]
def cvG (x : S114) : S68 := ⟨x.f0, x.f1, x.f2⟩
theorem toGateS_l0 (xs : List S114) (hn : xs.length ≤ 1048576) : ∀ (d i : Nat) (ys : List S68), xs.length - i = d → i ≤ xs.length → ys.length = xs.length → ys.take i = (xs.map cvG).take i → Ev (fun k => laws_toGateS.l0 k xs ys (i : Int)) (xs.map cvG) := by
  intro d
  induction d with
  | zero =>
    intro i ys hd hi hl ht
    have e : i = xs.length := by omega
    subst e
    have : ys = xs.map cvG := by
      rw [List.take_of_length_le (by omega), List.take_of_length_le (by simp)] at ht
      exact ht
    subst this
    exact Ev.step (f := fun _ => some (xs.map cvG)) (fun k => by simp only [laws_toGateS.l0]; rw [if_neg (by omega)]) (Ev.now _)
  | succ d ih =>
    intro i ys hd hi hl ht
    have hlt : i < xs.length := by omega
    refine Ev.step (f := fun k => laws_toGateS.l0 k xs (ys.set i (cvG (xs.getD i z114))) ((i + 1 : Nat) : Int)) (fun k => ?_) (ih (i + 1) _ (by omega) (by omega) (by simp [hl]) ?_)
    · simp only [laws_toGateS.l0]
      rw [if_pos (by omega), if_pos (by omega)]
      simp only [laws_toGate.f, Option.bind_some]
      rw [if_pos (by omega), w64_in (by omega) (by omega)]
      simp [rd_T114, cvG]
    · rw [take_succ_set _ _ _ (by omega), take_succ_map _ _ _ z114 hlt, ht]
theorem toGateS_ev (xs : List S114) (hn : xs.length ≤ 1048576) : Ev (fun k => laws_toGateS.f k xs) (xs.map cvG) := by
  unfold laws_toGateS.f
  refine ev_pos (by omega) (ev_pos (by omega) ?_)
  have := toGateS_l0 xs hn xs.length 0 (List.replicate xs.length z68) (by omega) (by omega) (by simp) (by simp)
  simpa using this
theorem toInt16S_l0 (xs : List Int) (hn : xs.length ≤ 1048576) : ∀ (d i : Nat) (ys : List Int), xs.length - i = d → i ≤ xs.length → ys.length = xs.length → ys.take i = xs.take i → Ev (fun k => laws_toInt16S.l0 k xs ys (i : Int)) xs := by
  intro d
  induction d with
  | zero =>
    intro i ys hd hi hl ht
    have e : i = xs.length := by omega
    subst e
    have : ys = xs := by
      rw [List.take_of_length_le (by omega), List.take_of_length_le (by simp)] at ht
      exact ht
    subst this
    exact Ev.step (f := fun _ => some ys) (fun k => by simp only [laws_toInt16S.l0]; rw [if_neg (by omega)]) (Ev.now _)
  | succ d ih =>
    intro i ys hd hi hl ht
    have hlt : i < xs.length := by omega
    refine Ev.step (f := fun k => laws_toInt16S.l0 k xs (ys.set i (xs.getD i 0)) ((i + 1 : Nat) : Int)) (fun k => ?_) (ih (i + 1) _ (by omega) (by omega) (by simp [hl]) ?_)
    · simp only [laws_toInt16S.l0]
      rw [if_pos (by omega), if_pos (by omega), if_pos (by omega), w64_in (by omega) (by omega)]
      simp [rd]
    · rw [take_succ_set _ _ _ (by omega), ht, List.take_succ_eq_append_getElem hlt]
      simp [List.getD_eq_getElem?_getD, List.getElem?_eq_getElem hlt]
theorem toInt16S_ev (xs : List Int) (hn : xs.length ≤ 1048576) : Ev (fun k => laws_toInt16S.f k xs) xs := by
  unfold laws_toInt16S.f
  refine ev_pos (by omega) (ev_pos (by omega) ?_)
  have := toInt16S_l0 xs hn xs.length 0 (List.replicate xs.length 0) (by omega) (by omega) (by simp) (by simp)
  simpa using this
theorem toCircuit_ev (n : Int) (gs : List S114) (os : List Int) (hg : gs.length ≤ 1048576) (ho : os.length ≤ 1048576) : Ev (fun k => laws_toCircuit.f k n gs os) (n, gs.map cvG, os) := by
  unfold laws_toCircuit.f
  exact Ev.bind (toGateS_ev gs hg) (Ev.bind (toInt16S_ev os ho) (Ev.now _))
theorem eqGateS_l0 (xs : List S68) (hn : xs.length ≤ 1048576) : ∀ (d i : Nat), xs.length - i = d → i ≤ xs.length → Ev (fun k => laws_eqGateS.l0 k xs xs (i : Int)) true := by
  intro d
  induction d with
  | zero =>
    intro i hd hi
    exact Ev.step (f := fun _ => some true) (fun k => by simp only [laws_eqGateS.l0]; rw [if_neg (by omega)]) (Ev.now _)
  | succ d ih =>
    intro i hd hi
    refine Ev.step (f := fun k => laws_eqGateS.l0 k xs xs ((i + 1 : Nat) : Int)) (fun k => ?_) (ih (i + 1) (by omega) (by omega))
    simp only [laws_eqGateS.l0]
    rw [if_pos (by omega), if_pos (by omega), if_pos (by omega)]
    simp only [laws_eqGate.f, if_true, Option.bind_some]
    rw [w64_in (by omega) (by omega)]
    rfl
theorem eqGateS_ev (xs : List S68) (hn : xs.length ≤ 1048576) : Ev (fun k => laws_eqGateS.f k xs xs) true := by
  unfold laws_eqGateS.f
  exact ev_pos rfl (eqGateS_l0 xs hn _ 0 rfl (by omega))
theorem eqInt16S_l0 (xs : List Int) (hn : xs.length ≤ 1048576) : ∀ (d i : Nat), xs.length - i = d → i ≤ xs.length → Ev (fun k => laws_eqInt16S.l0 k xs xs (i : Int)) true := by
  intro d
  induction d with
  | zero =>
    intro i hd hi
    exact Ev.step (f := fun _ => some true) (fun k => by simp only [laws_eqInt16S.l0]; rw [if_neg (by omega)]) (Ev.now _)
  | succ d ih =>
    intro i hd hi
    refine Ev.step (f := fun k => laws_eqInt16S.l0 k xs xs ((i + 1 : Nat) : Int)) (fun k => ?_) (ih (i + 1) (by omega) (by omega))
    simp only [laws_eqInt16S.l0]
    rw [if_pos (by omega), if_pos (by omega), if_pos (by omega)]
    simp only [if_true]
    rw [w64_in (by omega) (by omega)]
    rfl
theorem eqInt16S_ev (xs : List Int) (hn : xs.length ≤ 1048576) : Ev (fun k => laws_eqInt16S.f k xs xs) true := by
  unfold laws_eqInt16S.f
  exact ev_pos rfl (eqInt16S_l0 xs hn _ 0 rfl (by omega))
theorem eqCircuit_ev (n : Int) (gs : List S68) (os : List Int) (hg : gs.length ≤ 1048576) (ho : os.length ≤ 1048576) : Ev (fun k => laws_eqCircuit.f k n gs os n gs os) true := by
  unfold laws_eqCircuit.f
  exact ev_pos rfl (Ev.bind (eqGateS_ev gs hg) (ev_pos rfl (Ev.bind (eqInt16S_ev os ho) (ev_pos rfl (Ev.now _)))))
def mkG (c : Int) (n : Nat) : List S68 := (List.range n).map fun (i : Nat) => ⟨IntKind.i8.wrap (c + 3 * (i : Int)), IntKind.i16.wrap (c + 3 * (i : Int) + 1), IntKind.i16.wrap (c + 3 * (i : Int) + 2)⟩
def mkI (c : Int) (n : Nat) : List Int := (List.range n).map fun (i : Nat) => IntKind.i16.wrap (c + (i : Int))
theorem szCircuit_eq (n : Int) (gs : List S114) (os : List Int) (hg : gs.length ≤ maxLen) (ho : os.length ≤ maxLen) : ∃ t, laws_szCircuit.f n gs os 1048576 = some t ∧ (¬ t < 0 → gs.length ≤ 1048576 ∧ os.length ≤ 1048576) := by
  unfold maxLen at hg ho
  simp only [laws_szCircuit.f, laws_szGateS.f, laws_szInt16S.f]
  rw [w64_in (by omega) (by omega)]
  by_cases h1 : (1048576 : Int) - (gs.length : Int) < 0
  · rw [if_pos h1]; exact ⟨-1, rfl, fun h => absurd (by decide) h⟩
  · rw [if_neg h1]
    simp only [Option.bind_some]
    rw [if_neg h1, w64_in (by omega) (by omega)]
    by_cases h2 : (1048576 : Int) - (gs.length : Int) - (os.length : Int) < 0
    · rw [if_pos h2]; exact ⟨-1, rfl, fun h => absurd (by decide) h⟩
    · rw [if_neg h2]
      simp only [Option.bind_some]
      rw [if_neg h2]
      exact ⟨_, rfl, fun _ => ⟨by omega, by omega⟩⟩
def gateOkB (n i k a b : Int) : Bool :=
  if k = 0 then decide (0 ≤ wrap64 a) && decide (wrap64 a ≤ wrap64 (n - 1)) && (wrap64 b == 0)
  else if k = 1 then (wrap64 a == 0) && (wrap64 b == 0)
  else if k = 2 ∨ k = 3 then decide (0 ≤ wrap64 a) && decide (wrap64 a ≤ wrap64 (i - 1)) && (decide (0 ≤ wrap64 b) && decide (wrap64 b ≤ wrap64 (i - 1)))
  else false
def gatesOkB (n : Int) : Int → List S68 → Bool
  | _, [] => true
  | i, g :: gs => gateOkB n i g.f0 g.f1 g.f2 && gatesOkB n (i + 1) gs
def outOkB (m o : Int) : Bool := decide (0 ≤ wrap64 o) && decide (wrap64 o ≤ wrap64 (m - 1))
def headOkB (n : Int) (gs : List S68) (os : List Int) : Bool := decide (0 ≤ wrap64 n) && decide (wrap64 n ≤ 16) && (decide (gs.length ≤ 600) && decide (os.length ≤ 16))
def okB (n : Int) (gs : List S68) (os : List Int) : Bool := headOkB n gs os && (gatesOkB (wrap64 n) 0 gs && os.all (outOkB gs.length))
theorem l00In_eq (a b c : Int) : spec_l00In.f a b c = some (decide (b ≤ a) && decide (a ≤ c)) := by
  unfold spec_l00In.f
  by_cases h : a ≥ b
  · rw [if_pos h]; simp [h]
  · rw [if_neg h]; simp [h]
theorem within_eq (a b c : Int) : impl_within.f a b c = some (decide (b ≤ a) && decide (a ≤ c)) := by
  unfold impl_within.f
  by_cases h : b ≤ a
  · rw [if_pos h]; simp [h]
  · rw [if_neg h]; simp [h]
theorem l07Gate_eq (n i a b c : Int) (k : Nat) : spec_l07Gate.f (k + 1) a b c n i = some (gateOkB n i a b c) := by
  have hj : ∀ t, spec_l07Gate.j0 (k + 1) i (wrap64 b) (wrap64 c) t = some (if t = true then decide (0 ≤ wrap64 b) && decide (wrap64 b ≤ wrap64 (i - 1)) && (decide (0 ≤ wrap64 c) && decide (wrap64 c ≤ wrap64 (i - 1))) else false) := by
    intro t
    simp only [spec_l07Gate.j0, l00In_eq, Option.bind_some]
    cases t with
    | false => simp
    | true => by_cases h1 : 0 ≤ wrap64 b <;> by_cases h2 : wrap64 b ≤ wrap64 (i - 1) <;> simp [h1, h2]
  unfold spec_l07Gate.f gateOkB
  simp only [l00In_eq, Option.bind_some, hj]
  by_cases h0 : a = 0
  · simp only [h0, if_true]
    by_cases h1 : 0 ≤ wrap64 b <;> by_cases h2 : wrap64 b ≤ wrap64 (n - 1) <;> simp [h1, h2]
  · by_cases h1 : a = 1
    · simp only [h1]
      by_cases h2 : wrap64 b = 0 <;> simp [h2]
    · by_cases h2 : a = 2
      · simp [h2]
      · by_cases h3 : a = 3
        · simp [h3]
        · simp [h0, h1, h2, h3]
theorem isGate_eq (n : Int) (gs : List S68) (os : List Int) (i a b c : Int) : impl_Circuit_isGate.f n gs os a b c i = some (gateOkB (wrap64 n) i a b c) := by
  unfold impl_Circuit_isGate.f gateOkB impl_Gate_isPair.f
  simp only [within_eq, Option.bind_some]
  by_cases h0 : a = 0
  · simp only [h0, if_true]
    by_cases h1 : 0 ≤ wrap64 b <;> by_cases h2 : wrap64 b ≤ wrap64 (wrap64 n - 1) <;> simp [h1, h2]
  · by_cases h1 : a = 1
    · simp only [h1]
      by_cases h2 : wrap64 b = 0 <;> simp [h2]
    · by_cases h2 : a = 2
      · simp only [h2]
        by_cases h3 : 0 ≤ wrap64 b <;> by_cases h4 : wrap64 b ≤ wrap64 (i - 1) <;> simp [h3, h4]
      · by_cases h3 : a = 3
        · simp only [h3]
          by_cases h5 : 0 ≤ wrap64 b <;> by_cases h4 : wrap64 b ≤ wrap64 (i - 1) <;> simp [h5, h4]
        · simp [h0, h1, h2, h3]
theorem gatesOkB_drop (n : Int) (gs : List S68) (i : Nat) (h : i < gs.length) : gatesOkB n i (gs.drop i) = (gateOkB n i (rd_T68 gs i).f0 (rd_T68 gs i).f1 (rd_T68 gs i).f2 && gatesOkB n ((i + 1 : Nat) : Int) (gs.drop (i + 1))) := by
  rw [List.drop_eq_getElem_cons h]
  simp [gatesOkB, rd_T68, List.getD_eq_getElem?_getD, List.getElem?_eq_getElem h]
theorem outsOkB_drop (m : Int) (os : List Int) (i : Nat) (h : i < os.length) : (os.drop i).all (outOkB m) = (outOkB m (rd os i) && (os.drop (i + 1)).all (outOkB m)) := by
  rw [List.drop_eq_getElem_cons h, List.all_cons]
  simp [rd, List.getD_eq_getElem?_getD, List.getElem?_eq_getElem h]
theorem l07Ok_l1 (m n : Int) (gs : List S68) (os : List Int) (ho : os.length ≤ 16) : ∀ (d i : Nat), os.length - i = d → i ≤ os.length → Ev (fun k => spec_l07Ok.l1 k m (i : Int) n gs os) ((os.drop i).all (outOkB m)) := by
  intro d
  induction d with
  | zero =>
    intro i hd hi
    have e : i = os.length := by omega
    subst e
    exact Ev.step (f := fun _ => some true) (fun k => by simp only [spec_l07Ok.l1]; rw [if_neg (by omega)]) (by simp only [List.drop_length, List.all_nil]; exact Ev.now _)
  | succ d ih =>
    intro i hd hi
    have hlt : i < os.length := by omega
    rw [outsOkB_drop m os i hlt]
    cases hb : outOkB m (rd os i) with
    | true =>
      refine Ev.step (fun k => ?_) (by simpa using ih (i + 1) (by omega) (by omega))
      simp only [spec_l07Ok.l1, l00In_eq, Option.bind_some]
      rw [if_pos (by omega), if_pos (by omega), if_pos (by simpa [outOkB] using hb), w64_in (by omega) (by omega)]
    | false =>
      refine Ev.step (f := fun _ => some false) (fun k => ?_) (Ev.now _)
      simp only [spec_l07Ok.l1, l00In_eq, Option.bind_some]
      rw [if_pos (by omega), if_pos (by omega), if_neg (by simpa [outOkB] using hb)]
theorem l07Ok_l0 (n : Int) (gs : List S68) (os : List Int) (hg : gs.length ≤ 600) (ho : os.length ≤ 16) : ∀ (d i : Nat), gs.length - i = d → i ≤ gs.length → Ev (fun k => spec_l07Ok.l0 k (gs.length : Int) (i : Int) n gs os) (gatesOkB (wrap64 n) i (gs.drop i) && os.all (outOkB gs.length)) := by
  intro d
  induction d with
  | zero =>
    intro i hd hi
    have e : i = gs.length := by omega
    subst e
    refine Ev.step (fun k => ?_) (by simpa [gatesOkB] using l07Ok_l1 (gs.length : Int) n gs os ho os.length 0 (by omega) (by omega))
    simp only [spec_l07Ok.l0]
    rw [if_neg (by omega)]
  | succ d ih =>
    intro i hd hi
    have hlt : i < gs.length := by omega
    rw [gatesOkB_drop _ gs i hlt]
    cases hb : gateOkB (wrap64 n) i (rd_T68 gs i).f0 (rd_T68 gs i).f1 (rd_T68 gs i).f2 with
    | true =>
      refine Ev.step (f := fun k => (spec_l07Gate.f k (rd_T68 gs i).f0 (rd_T68 gs i).f1 (rd_T68 gs i).f2 (wrap64 n) i).bind fun t => if t = true then spec_l07Ok.l0 k (gs.length : Int) ((i + 1 : Nat) : Int) n gs os else some false) (fun k => ?_) (Ev.bind (a := true) ⟨1, fun k hk => ?_⟩ (ev_pos rfl (by simpa using ih (i + 1) (by omega) (by omega))))
      · simp only [spec_l07Ok.l0]
        rw [if_pos (by omega), if_pos (by omega), if_pos (by omega), w64_in (x := (i : Int) + 1) (by omega) (by omega)]
        rfl
      · obtain ⟨j, rfl⟩ : ∃ j, k = j + 1 := ⟨k - 1, by omega⟩
        show spec_l07Gate.f (j + 1) _ _ _ _ _ = _
        rw [l07Gate_eq, hb]
    | false =>
      refine Ev.step (f := fun k => (spec_l07Gate.f k (rd_T68 gs i).f0 (rd_T68 gs i).f1 (rd_T68 gs i).f2 (wrap64 n) i).bind fun t => if t = true then spec_l07Ok.l0 k (gs.length : Int) ((i + 1 : Nat) : Int) n gs os else some false) (fun k => ?_) (Ev.bind (a := false) ⟨1, fun k hk => ?_⟩ (ev_neg (by simp) (Ev.now _)))
      · simp only [spec_l07Ok.l0]
        rw [if_pos (by omega), if_pos (by omega), if_pos (by omega), w64_in (x := (i : Int) + 1) (by omega) (by omega)]
        rfl
      · obtain ⟨j, rfl⟩ : ∃ j, k = j + 1 := ⟨k - 1, by omega⟩
        show spec_l07Gate.f (j + 1) _ _ _ _ _ = _
        rw [l07Gate_eq, hb]
theorem l07Ok_ev (n : Int) (gs : List S68) (os : List Int) : Ev (fun k => spec_l07Ok.f k n gs os) (okB n gs os) := by
  unfold spec_l07Ok.f okB headOkB
  refine ev_some (l00In_eq _ _ _) ?_
  by_cases h1 : 0 ≤ wrap64 n ∧ wrap64 n ≤ 16
  · simp only [h1.1, h1.2, decide_true, Bool.and_self, if_true, Bool.true_and]
    by_cases h2 : gs.length ≤ 600
    · refine ev_neg (by omega) ?_
      by_cases h3 : os.length ≤ 16
      · refine Ev.step (fun k => ?_) (by simpa [h2, h3] using l07Ok_l0 n gs os h2 h3 gs.length 0 (by omega) (by omega))
        simp only [spec_l07Ok.j0]
        rw [if_neg (by simp; omega)]
      · refine Ev.step (f := fun _ => some false) (fun k => ?_) (by simp [h2, h3]; exact Ev.now _)
        simp only [spec_l07Ok.j0]
        rw [if_pos (by simp; omega)]
    · refine ev_pos (by omega) (Ev.step (f := fun _ => some false) (fun k => ?_) (by simp [h2]; exact Ev.now _))
      simp [spec_l07Ok.j0]
  · have h2 : (decide (0 ≤ wrap64 n) && decide (wrap64 n ≤ 16)) = false := by
      simp only [Bool.and_eq_false_iff, decide_eq_false_iff_not]
      omega
    rw [h2]
    simp only [Bool.false_and, Bool.false_eq_true, if_false]
    refine Ev.step (f := fun _ => some false) (fun k => ?_) (Ev.now _)
    simp [spec_l07Ok.j0]
theorem anyO_total {α : Type} (p : α → Option Bool) (q : α → Bool) (h : ∀ x, p x = some (q x)) : ∀ l : List α, anyO p l = some (l.any q)
  | [] => rfl
  | x :: l => by
    simp only [anyO, h, Option.bind_some, List.any_cons]
    cases q x with
    | true => rfl
    | false => simpa using anyO_total p q h l
theorem not_any_not (m : Int) : ∀ os : List Int, (!os.any fun o => !outOkB m o) = os.all (outOkB m)
  | [] => rfl
  | o :: os => by
    rw [List.any_cons, List.all_cons, ← not_any_not m os]
    cases outOkB m o <;> simp
theorem valid_l0 (n : Int) (gs : List S68) (os : List Int) (hg : gs.length ≤ 600) : ∀ (d i : Nat), gs.length - i = d → i ≤ gs.length → Ev (fun k => impl_ValidCircuit.l0 k gs (gs.length : Int) (i : Int) n gs os) (gatesOkB (wrap64 n) i (gs.drop i) && os.all (outOkB gs.length)) := by
  intro d
  induction d with
  | zero =>
    intro i hd hi
    have e : i = gs.length := by omega
    subst e
    refine Ev.step (f := fun _ => some (os.all (outOkB gs.length))) (fun k => ?_) (by simp [gatesOkB]; exact Ev.now _)
    simp only [impl_ValidCircuit.l0, slices_ContainsFunc_int16_int16.f]
    rw [if_neg (by omega), anyO_total _ (fun o => !outOkB gs.length o) (fun o => by simp only [impl_ValidCircuit_1.f, within_eq, Option.bind_some, outOkB])]
    simp only [Option.bind_some, not_any_not]
  | succ d ih =>
    intro i hd hi
    have hlt : i < gs.length := by omega
    rw [gatesOkB_drop _ gs i hlt]
    cases hb : gateOkB (wrap64 n) i (rd_T68 gs i).f0 (rd_T68 gs i).f1 (rd_T68 gs i).f2 with
    | true =>
      refine Ev.step (fun k => ?_) (by simpa using ih (i + 1) (by omega) (by omega))
      simp only [impl_ValidCircuit.l0, isGate_eq, hb, Option.bind_some]
      rw [if_pos (by omega), if_pos (by omega), if_pos (by omega), if_pos trivial, w64_in (x := (i : Int) + 1) (by omega) (by omega)]
    | false =>
      refine Ev.step (f := fun _ => some false) (fun k => ?_) (Ev.now _)
      simp only [impl_ValidCircuit.l0, isGate_eq, hb, Option.bind_some]
      rw [if_pos (by omega), if_pos (by omega), if_pos (by omega), if_neg (by simp)]
theorem valid_ev (n : Int) (gs : List S68) (os : List Int) : Ev (fun k => impl_ValidCircuit.f k n gs os) (okB n gs os) := by
  unfold impl_ValidCircuit.f okB headOkB
  refine ev_some (within_eq _ _ _) ?_
  by_cases h1 : 0 ≤ wrap64 n ∧ wrap64 n ≤ 16
  · simp only [h1.1, h1.2, decide_true, Bool.and_self, if_true, Bool.true_and]
    by_cases h2 : gs.length ≤ 600
    · refine ev_neg (by omega) ?_
      by_cases h3 : os.length ≤ 16
      · refine Ev.step (fun k => ?_) (by simpa [h2, h3] using valid_l0 n gs os h2 gs.length 0 (by omega) (by omega))
        simp only [impl_ValidCircuit.j0]
        rw [if_neg (by simp; omega)]
      · refine Ev.step (f := fun _ => some false) (fun k => ?_) (by simp [h2, h3]; exact Ev.now _)
        simp only [impl_ValidCircuit.j0]
        rw [if_pos (by simp; omega)]
    · refine ev_pos (by omega) (Ev.step (f := fun _ => some false) (fun k => ?_) (by simp [h2]; exact Ev.now _))
      simp [impl_ValidCircuit.j0]
  · have h2 : (decide (0 ≤ wrap64 n) && decide (wrap64 n ≤ 16)) = false := by
      simp only [Bool.and_eq_false_iff, decide_eq_false_iff_not]
      omega
    rw [h2]
    simp only [Bool.false_and, Bool.false_eq_true, if_false]
    refine Ev.step (f := fun _ => some false) (fun k => ?_) (Ev.now _)
    simp [impl_ValidCircuit.j0]
theorem okB_len {n : Int} {gs : List S68} {os : List Int} (h : okB n gs os = true) : gs.length ≤ 600 ∧ os.length ≤ 16 := by
  unfold okB headOkB at h
  simp only [Bool.and_eq_true, decide_eq_true_eq] at h
  exact h.1.2
end Go.Proofs.Yteanndgkjoinmaa.X

namespace Go.Proofs.Yteanndgkjoinmaa.X
open Go.RowKit Go.Proofs.YteanndgkjoinmaaW.PrintWords Go.Proofs.YteanndgkjoinmaaW.PrintLast Go.Proofs.YteanndgkjoinmaaW.PrintMore
theorem wrap_u64 (n : Int) : IntKind.u64.wrap n = n % 18446744073709551616 := by simp [IntKind.wrap, IntKind.bits, IntKind.signed]
theorem and1 (y : Int) (h1 : 0 ≤ y) (h2 : y < 65536) : Go.bits .and .u16 y 1 = y % 2 := by
  obtain ⟨a, rfl⟩ := Int.eq_ofNat_of_zero_le h1
  have e : Go.bits .and .u16 (a : Int) 1 = IntKind.u16.wrap (((a % 2 ^ 16) &&& 1 : Nat) : Int) := by
    simp only [Go.bits, BitVec.ofInt_natCast, BitVec.toNat_and, BitVec.toNat_ofNat]
    rfl
  rw [e, Nim.wrap_u16, Nat.and_one_is_mod]
  omega
theorem shr_range (x c : Int) (h1 : 0 ≤ x) (h2 : x < 65536) : 0 ≤ shr .u16 x c ∧ shr .u16 x c < 65536 := by
  unfold shr
  have hp : (0 : Int) < 2 ^ min c.toNat IntKind.u16.bits := Int.pow_pos (by decide)
  exact ⟨Int.ediv_nonneg h1 (Int.le_of_lt hp), Int.lt_of_le_of_lt (Int.ediv_le_self _ h1) h2⟩
theorem bit_alike (x c : Int) (h1 : 0 ≤ x) (h2 : x < 65536) : (Go.bits .and .u16 (shr .u16 x c) 1 == 1) = (Int.tmod (shr .u16 x c) 2 == 1) := by
  obtain ⟨h3, h4⟩ := shr_range x c h1 h2
  rw [and1 _ h3 h4, Int.tmod_eq_emod_of_nonneg h3]
def gIn (g : S68) : Prop := -32768 ≤ g.f1 ∧ g.f1 ≤ 32767 ∧ -32768 ≤ g.f2 ∧ g.f2 ≤ 32767
theorem vals_l0 (x : Int) (hx1 : 0 ≤ x) (hx2 : x < 65536) (n : Int) (gs : List S68) (os : List Int) (hg : gs.length ≤ 600) (hw : ∀ g ∈ gs, gIn g) : ∀ (d i : Nat) (vs : List Bool), gs.length - i = d → i ≤ gs.length → vs.length = i → gatesOkB (wrap64 n) i (gs.drop i) = true →
    ∃ r : List Bool, r.length = gs.length ∧ Ev (fun k => spec_l07Values.l0 k x vs (i : Int) n gs os) r ∧ Ev (fun k => impl_Circuit_on.l0 k x vs gs (gs.length : Int) (i : Int)) r := by
  intro d
  induction d with
  | zero =>
    intro i vs hd hi hv hb
    refine ⟨vs, by omega, Ev.step (f := fun _ => some vs) (fun k => ?_) (Ev.now _), Ev.step (f := fun _ => some vs) (fun k => ?_) (Ev.now _)⟩
    · simp only [spec_l07Values.l0]; rw [if_neg (by omega)]
    · simp only [impl_Circuit_on.l0]; rw [if_neg (by omega)]
  | succ d ih =>
    intro i vs hd hi hv hb
    have hlt : i < gs.length := by omega
    rw [gatesOkB_drop _ gs i hlt, Bool.and_eq_true] at hb
    obtain ⟨hb, hrest⟩ := hb
    have hm : gIn (rd_T68 gs i) := hw _ (by simp [rd_T68, List.getD_eq_getElem?_getD, List.getElem?_eq_getElem hlt])
    have hwr : wrap64 ((i : Int) + 1) = ((i + 1 : Nat) : Int) := by rw [w64_in (by omega) (by omega)]; rfl
    suffices h : ∃ b : Bool, (∀ k, spec_l07Values.l0 (k + 1) x vs (i : Int) n gs os = spec_l07Values.l0 k x (vs ++ [b]) ((i + 1 : Nat) : Int) n gs os) ∧ (∀ k, impl_Circuit_on.l0 (k + 1) x vs gs (gs.length : Int) (i : Int) = impl_Circuit_on.l0 k x (vs ++ [b]) gs (gs.length : Int) ((i + 1 : Nat) : Int)) by
      obtain ⟨b, h1, h2⟩ := h
      obtain ⟨r, hr, e1, e2⟩ := ih (i + 1) (vs ++ [b]) (by omega) (by omega) (by simp [hv]) hrest
      exact ⟨r, hr, Ev.step h1 e1, Ev.step h2 e2⟩
    simp only [spec_l07Values.l0, impl_Circuit_on.l0]
    generalize rd_T68 gs i = g at hb hm
    obtain ⟨f0, f1, f2⟩ := g
    obtain ⟨m1, m2, m3, m4⟩ := hm
    dsimp only at hb m1 m2 m3 m4 ⊢
    unfold gateOkB at hb
    rw [w64_in (x := f1) (by omega) (by omega), w64_in (x := f2) (by omega) (by omega), w64_in (x := (i : Int) - 1) (by omega) (by omega)] at hb
    have l1 : (i : Int) < (gs.length : Int) := by omega
    have l2 : (0 : Int) ≤ (i : Int) := by omega
    have l3 : vs.length < 140737488355328 := by omega
    by_cases k0 : f0 = 0
    · rw [if_pos k0] at hb
      simp only [Bool.and_eq_true, decide_eq_true_eq] at hb
      have hu : IntKind.u64.wrap f1 = f1 := by rw [wrap_u64]; omega
      refine ⟨((shr IntKind.u16 x f1).tmod 2 == 1), fun k => ?_, fun k => ?_⟩
      · rw [if_pos l1, if_pos l2, if_pos k0, hu, if_pos hb.1.1, if_pos l3, hwr]
      · rw [if_pos l1, if_pos l2, if_pos l1, if_pos k0, if_pos hb.1.1, if_pos l3, hwr, bit_alike _ _ hx1 hx2]
    · rw [if_neg k0] at hb
      by_cases k1 : f0 = 1
      · refine ⟨true, fun k => ?_, fun k => ?_⟩
        · rw [if_pos l1, if_pos l2, if_neg k0, if_neg (by omega), if_neg (by omega), if_pos l3, hwr]
        · rw [if_pos l1, if_pos l2, if_pos l1, if_neg k0, if_pos k1, if_pos l3, hwr]
      · rw [if_neg k1] at hb
        by_cases k23 : f0 = 2 ∨ f0 = 3
        · rw [if_pos k23] at hb
          simp only [Bool.and_eq_true, decide_eq_true_eq] at hb
          obtain ⟨⟨a1, a2⟩, a3, a4⟩ := hb
          have b2 : f1 < (vs.length : Int) := by omega
          have b4 : f2 < (vs.length : Int) := by omega
          by_cases k2 : f0 = 2
          · refine ⟨rdOf false vs f1 != rdOf false vs f2, fun k => ?_, fun k => ?_⟩
            · rw [if_pos l1, if_pos l2, if_neg k0, if_pos k2, if_pos a1, if_pos b2, if_pos a3, if_pos b4, if_pos l3, hwr]
            · rw [if_pos l1, if_pos l2, if_pos l1, if_neg k0, if_neg k1, if_pos k2, if_pos a1, if_pos b2, if_pos a3, if_pos b4, if_pos l3, hwr]
          · by_cases hc : rdOf false vs f1 = true
            · refine ⟨rdOf false vs f2, fun k => ?_, fun k => ?_⟩
              · rw [if_pos l1, if_pos l2, if_neg k0, if_neg k2, if_pos (by omega), if_pos a1, if_pos b2, if_pos hc, if_pos a3, if_pos b4, if_pos l3, hwr]
              · rw [if_pos l1, if_pos l2, if_pos l1, if_neg k0, if_neg k1, if_neg k2, if_pos a1, if_pos b2, if_pos hc, if_pos a3, if_pos b4, if_pos l3, hwr]
            · refine ⟨false, fun k => ?_, fun k => ?_⟩
              · rw [if_pos l1, if_pos l2, if_neg k0, if_neg k2, if_pos (by omega), if_pos a1, if_pos b2, if_neg hc, if_pos l3, hwr]
              · rw [if_pos l1, if_pos l2, if_pos l1, if_neg k0, if_neg k1, if_neg k2, if_pos a1, if_pos b2, if_neg hc, if_pos l3, hwr]
        · rw [if_neg k23] at hb
          cases hb
theorem run_l0 (n : Int) (gs : List S68) (os : List Int) (vs : List Bool) (hv : vs.length = gs.length) (hg : gs.length ≤ 600) (ho : os.length ≤ 16) (hw : ∀ o ∈ os, -32768 ≤ o ∧ o ≤ 32767) : ∀ (d i : Nat) (y : Int), os.length - i = d → i ≤ os.length → (os.drop i).all (outOkB gs.length) = true →
    ∃ r : Int, Ev (fun k => spec_l07Run.l0 k vs y (i : Int) n gs os) r ∧ Ev (fun k => impl_Circuit_run.l0 k vs y os (os.length : Int) (i : Int)) r := by
  intro d
  induction d with
  | zero =>
    intro i y hd hi hb
    refine ⟨y, Ev.step (f := fun _ => some y) (fun k => ?_) (Ev.now _), Ev.step (f := fun _ => some y) (fun k => ?_) (Ev.now _)⟩
    · simp only [spec_l07Run.l0]; rw [if_neg (by omega)]
    · simp only [impl_Circuit_run.l0]; rw [if_neg (by omega)]
  | succ d ih =>
    intro i y hd hi hb
    have hlt : i < os.length := by omega
    rw [outsOkB_drop _ os i hlt, Bool.and_eq_true] at hb
    obtain ⟨hb, hrest⟩ := hb
    have hm : -32768 ≤ rd os i ∧ rd os i ≤ 32767 := hw _ (by simp [rd, List.getD_eq_getElem?_getD, List.getElem?_eq_getElem hlt])
    have hwr : wrap64 ((i : Int) + 1) = ((i + 1 : Nat) : Int) := by rw [w64_in (by omega) (by omega)]; rfl
    have hu : IntKind.u64.wrap (i : Int) = (i : Int) := by rw [wrap_u64]; omega
    simp only [outOkB, Bool.and_eq_true, decide_eq_true_eq] at hb
    rw [w64_in (x := rd os i) (by omega) (by omega), w64_in (x := (gs.length : Int) - 1) (by omega) (by omega)] at hb
    have l1 : (i : Int) < (os.length : Int) := by omega
    have l2 : (0 : Int) ≤ (i : Int) := by omega
    have l3 : rd os i < (vs.length : Int) := by omega
    by_cases hc : rdOf false vs (rd os i) = true
    · obtain ⟨r, e1, e2⟩ := ih (i + 1) (Go.bits .or .u16 y (shl .u16 1 (i : Int))) (by omega) (by omega) hrest
      refine ⟨r, Ev.step (fun k => ?_) e1, Ev.step (fun k => ?_) e2⟩
      · simp only [spec_l07Run.l0]
        rw [if_pos l1, if_pos l2, if_pos hb.1, if_pos l3, if_pos hc, hu, if_pos l2, hwr]
      · simp only [impl_Circuit_run.l0]
        rw [if_pos l1, if_pos l2, if_pos l1, if_pos hb.1, if_pos l3, if_pos hc, hwr]
    · obtain ⟨r, e1, e2⟩ := ih (i + 1) y (by omega) (by omega) hrest
      refine ⟨r, Ev.step (fun k => ?_) e1, Ev.step (fun k => ?_) e2⟩
      · simp only [spec_l07Run.l0]
        rw [if_pos l1, if_pos l2, if_pos hb.1, if_pos l3, if_neg hc, hwr]
      · simp only [impl_Circuit_run.l0]
        rw [if_pos l1, if_pos l2, if_pos l1, if_pos hb.1, if_pos l3, if_neg hc, hwr]
theorem run_ev (x : Int) (hx1 : 0 ≤ x) (hx2 : x < 65536) (n : Int) (gs : List S68) (os : List Int) (hok : okB n gs os = true) (hw : ∀ g ∈ gs, gIn g) (hw2 : ∀ o ∈ os, -32768 ≤ o ∧ o ≤ 32767) :
    ∃ r : Int, Ev (fun k => spec_l07Run.f k n gs os x) r ∧ Ev (fun k => impl_Circuit_run.f k n gs os x) r := by
  obtain ⟨hg, ho⟩ := okB_len hok
  unfold okB at hok
  simp only [Bool.and_eq_true] at hok
  obtain ⟨vs, hv, e1, e2⟩ := vals_l0 x hx1 hx2 n gs os hg hw gs.length 0 [] (by omega) (by omega) rfl (by simpa using hok.2.1)
  obtain ⟨r, e3, e4⟩ := run_l0 n gs os vs hv hg ho hw2 os.length 0 0 (by omega) (by omega) (by simpa using hok.2.2)
  exact ⟨r, Ev.bind e1 e3, Ev.bind e2 e4⟩
theorem times16 : ∀ x : Fin 16, ∀ y : Fin 16, impl_times.f 16 (x.val : Int) (y.val : Int) = some (Nim.nmI 4 (x.val : Int) (y.val : Int)) := by decide +kernel
theorem times_ev (x y : Nat) (hx : x < 16) (hy : y < 16) : Ev (fun k => impl_times.f k (x : Int) (y : Int)) (Nim.nmI 4 (x : Int) (y : Int)) :=
  Ev.of (fun k => impl_times.mono _ _ k) (times16 ⟨x, hx⟩ ⟨y, hy⟩)
end Go.Proofs.Yteanndgkjoinmaa.X

namespace Go.Proofs.Yteanndgkjoinmaa.X
open Go.RowKit Go.Proofs.YteanndgkjoinmaaW.PrintWords Go.Proofs.YteanndgkjoinmaaW.PrintLast Go.Proofs.YteanndgkjoinmaaW.PrintMore
abbrev WR := Int × Int × Bool
section
variable (n : Int) (gs : List S68) (os : List Int) (hok : okB n gs os = true) (hw : ∀ g ∈ gs, gIn g) (hw2 : ∀ o ∈ os, -32768 ≤ o ∧ o ≤ 32767)
variable (c L : Int) (B T : Nat) (hB : 2 ^ B = T) (hT : T ≤ 16) (hB16 : B ≤ 4) (hL : 0 ≤ L) (hs : shl .u64 1 L = (B : Int))
include hB hB16
theorem shr_zero (a : Nat) : (shr .u16 (a : Int) (B : Int) = 0) ↔ a < T := by
  unfold shr
  have e : min ((B : Int)).toNat IntKind.u16.bits = B := by
    have : IntKind.u16.bits = 16 := rfl
    rw [this]; omega
  rw [e, show ((2 : Int) ^ B) = ((T : Nat) : Int) by rw [← hB]; simp]
  have hT0 : 0 < T := by rw [← hB]; exact Nat.two_pow_pos _
  constructor
  · intro h
    have : a / T = 0 := by exact_mod_cast h
    exact (Nat.div_eq_zero_iff_lt hT0).1 this
  · intro h
    exact_mod_cast Nat.div_eq_of_lt h
include hT hok hw hw2 hL hs
theorem wrong_l1 (a : Nat) (ha : a < T) (hout : ∃ r : WR, Ev (fun k => spec_l07Wrong.l0 k c (B : Int) ((a + 1 : Nat) : Int) n gs os) r ∧ Ev (fun k => impl_Circuit_firstWrong.l0 k c L (T : Int) (T : Int) ((a + 1 : Nat) : Int) n gs os) r) :
    ∀ (d b : Nat), T - b = d → b ≤ T → ∃ r : WR, Ev (fun k => spec_l07Wrong.l1 k c (B : Int) (a : Int) (b : Int) n gs os) r ∧ Ev (fun k => impl_Circuit_firstWrong.l1 k c L (T : Int) (a : Int) (T : Int) (a : Int) (T : Int) (b : Int) n gs os) r := by
  have hz := shr_zero B T hB hB16
  have hB0 : (0 : Int) ≤ (B : Int) := by omega
  have hwa : IntKind.u16.wrap ((a : Int) + 1) = ((a + 1 : Nat) : Int) := by rw [Nim.wrap_u16]; omega
  intro d
  induction d with
  | zero =>
    intro b hd hb
    have e : b = T := by omega
    obtain ⟨r, e1, e2⟩ := hout
    refine ⟨r, Ev.step (fun k => ?_) e1, Ev.step (fun k => ?_) e2⟩
    · simp only [spec_l07Wrong.l1]
      rw [if_pos hB0, if_neg (by rw [hz]; omega), hwa]
    · simp only [impl_Circuit_firstWrong.l1]
      rw [if_neg (by omega), hwa]
  | succ d ih =>
    intro b hd hb
    obtain ⟨r0, e1, e2⟩ := ih (b + 1) (by omega) (by omega)
    have hwb : IntKind.u16.wrap ((b : Int) + 1) = ((b + 1 : Nat) : Int) := by rw [Nim.wrap_u16]; omega
    have hx : ∀ y : Int, 0 ≤ Go.bits .or .u16 (a : Int) y ∧ Go.bits .or .u16 (a : Int) y < 65536 := by
      intro y
      simp only [Go.bits]
      rw [Nim.wrap_u16]
      omega
    obtain ⟨hx1, hx2⟩ := hx (shl .u16 (b : Int) (B : Int))
    obtain ⟨v, r1, r2⟩ := run_ev _ hx1 hx2 n gs os hok hw hw2
    have hbT : (b : Int) < (T : Int) := by omega
    by_cases hc : c = 1
    · have ht := times_ev a b (by omega) (by omega)
      have hst : spec_l01Times.f (a : Int) (b : Int) = some (Nim.nmI 4 (a : Int) (b : Int)) := by unfold spec_l01Times.f; rw [if_pos (by omega)]
      by_cases hv : v = Nim.nmI 4 (a : Int) (b : Int)
      · refine ⟨r0, Ev.step (f := fun k => (spec_l01Times.f (a : Int) (b : Int)).bind fun t102 => ((spec_l07Run.f k n gs os (Go.bits .or .u16 (a : Int) (shl .u16 (b : Int) (B : Int)))).bind fun t103 => (if t103 = t102 then (spec_l07Wrong.l1 k c (B : Int) (a : Int) ((b + 1 : Nat) : Int) n gs os) else (some ((a : Int), (b : Int), true))))) (fun k => ?_) (ev_some hst (Ev.bind r1 (ev_pos hv e1))), Ev.step (f := fun k => (impl_times.f k (a : Int) (b : Int)).bind fun t102 => ((impl_Circuit_run.f k n gs os (Go.bits .or .u16 (a : Int) (shl .u16 (b : Int) (B : Int)))).bind fun t103 => (if t103 = t102 then (impl_Circuit_firstWrong.l1 k c L (T : Int) (a : Int) (T : Int) (a : Int) (T : Int) ((b + 1 : Nat) : Int) n gs os) else (some ((a : Int), (b : Int), true))))) (fun k => ?_) (Ev.bind ht (Ev.bind r2 (ev_pos hv e2)))⟩
        · simp only [spec_l07Wrong.l1]
          rw [if_pos hB0, if_pos (by rw [hz]; omega), if_pos hc, hwb]
        · simp only [impl_Circuit_firstWrong.l1, hs]
          rw [if_pos hbT, if_pos hc]; simp only [hL, if_true, hwb]
      · refine ⟨((a : Int), (b : Int), true), Ev.step (f := fun k => (spec_l01Times.f (a : Int) (b : Int)).bind fun t102 => ((spec_l07Run.f k n gs os (Go.bits .or .u16 (a : Int) (shl .u16 (b : Int) (B : Int)))).bind fun t103 => (if t103 = t102 then (spec_l07Wrong.l1 k c (B : Int) (a : Int) ((b + 1 : Nat) : Int) n gs os) else (some ((a : Int), (b : Int), true))))) (fun k => ?_) (ev_some hst (Ev.bind r1 (ev_neg hv (Ev.now _)))), Ev.step (f := fun k => (impl_times.f k (a : Int) (b : Int)).bind fun t102 => ((impl_Circuit_run.f k n gs os (Go.bits .or .u16 (a : Int) (shl .u16 (b : Int) (B : Int)))).bind fun t103 => (if t103 = t102 then (impl_Circuit_firstWrong.l1 k c L (T : Int) (a : Int) (T : Int) (a : Int) (T : Int) ((b + 1 : Nat) : Int) n gs os) else (some ((a : Int), (b : Int), true))))) (fun k => ?_) (Ev.bind ht (Ev.bind r2 (ev_neg hv (Ev.now _))))⟩
        · simp only [spec_l07Wrong.l1]
          rw [if_pos hB0, if_pos (by rw [hz]; omega), if_pos hc, hwb]
        · simp only [impl_Circuit_firstWrong.l1, hs]
          rw [if_pos hbT, if_pos hc]; simp only [hL, if_true, hwb]
    · by_cases hv : v = Go.bits .xor .u16 (a : Int) (b : Int)
      · refine ⟨r0, Ev.step (f := fun k => ((spec_l07Run.f k n gs os (Go.bits .or .u16 (a : Int) (shl .u16 (b : Int) (B : Int)))).bind fun t103 => (if t103 = Go.bits .xor .u16 (a : Int) (b : Int) then (spec_l07Wrong.l1 k c (B : Int) (a : Int) ((b + 1 : Nat) : Int) n gs os) else (some ((a : Int), (b : Int), true))))) (fun k => ?_) (Ev.bind r1 (ev_pos hv e1)), Ev.step (f := fun k => ((impl_Circuit_run.f k n gs os (Go.bits .or .u16 (a : Int) (shl .u16 (b : Int) (B : Int)))).bind fun t103 => (if t103 = Go.bits .xor .u16 (a : Int) (b : Int) then (impl_Circuit_firstWrong.l1 k c L (T : Int) (a : Int) (T : Int) (a : Int) (T : Int) ((b + 1 : Nat) : Int) n gs os) else (some ((a : Int), (b : Int), true))))) (fun k => ?_) (Ev.bind r2 (ev_pos hv e2))⟩
        · simp only [spec_l07Wrong.l1]
          rw [if_pos hB0, if_pos (by rw [hz]; omega), if_neg hc, hwb]
        · simp only [impl_Circuit_firstWrong.l1, hs]
          rw [if_pos hbT, if_neg hc, if_pos hL, hwb]
      · refine ⟨((a : Int), (b : Int), true), Ev.step (f := fun k => ((spec_l07Run.f k n gs os (Go.bits .or .u16 (a : Int) (shl .u16 (b : Int) (B : Int)))).bind fun t103 => (if t103 = Go.bits .xor .u16 (a : Int) (b : Int) then (spec_l07Wrong.l1 k c (B : Int) (a : Int) ((b + 1 : Nat) : Int) n gs os) else (some ((a : Int), (b : Int), true))))) (fun k => ?_) (Ev.bind r1 (ev_neg hv (Ev.now _))), Ev.step (f := fun k => ((impl_Circuit_run.f k n gs os (Go.bits .or .u16 (a : Int) (shl .u16 (b : Int) (B : Int)))).bind fun t103 => (if t103 = Go.bits .xor .u16 (a : Int) (b : Int) then (impl_Circuit_firstWrong.l1 k c L (T : Int) (a : Int) (T : Int) (a : Int) (T : Int) ((b + 1 : Nat) : Int) n gs os) else (some ((a : Int), (b : Int), true))))) (fun k => ?_) (Ev.bind r2 (ev_neg hv (Ev.now _)))⟩
        · simp only [spec_l07Wrong.l1]
          rw [if_pos hB0, if_pos (by rw [hz]; omega), if_neg hc, hwb]
        · simp only [impl_Circuit_firstWrong.l1, hs]
          rw [if_pos hbT, if_neg hc, if_pos hL, hwb]
theorem wrong_l0 : ∀ (d a : Nat), T - a = d → a ≤ T → ∃ r : WR, Ev (fun k => spec_l07Wrong.l0 k c (B : Int) (a : Int) n gs os) r ∧ Ev (fun k => impl_Circuit_firstWrong.l0 k c L (T : Int) (T : Int) (a : Int) n gs os) r := by
  have hz := shr_zero B T hB hB16
  have hB0 : (0 : Int) ≤ (B : Int) := by omega
  intro d
  induction d with
  | zero =>
    intro a hd ha
    refine ⟨(0, 0, false), Ev.step (f := fun _ => some (0, 0, false)) (fun k => ?_) (Ev.now _), Ev.step (f := fun _ => some (0, 0, false)) (fun k => ?_) (Ev.now _)⟩
    · simp only [spec_l07Wrong.l0]
      rw [if_pos hB0, if_neg (by rw [hz]; omega)]
    · simp only [impl_Circuit_firstWrong.l0]
      rw [if_neg (by omega)]
  | succ d ih =>
    intro a hd ha
    obtain ⟨r, e1, e2⟩ := wrong_l1 n gs os hok hw hw2 c L B T hB hT hB16 hL hs a (by omega) (ih (a + 1) (by omega) (by omega)) T 0 (by omega) (by omega)
    refine ⟨r, Ev.step (fun k => ?_) e1, Ev.step (fun k => ?_) e2⟩
    · simp only [spec_l07Wrong.l0]
      rw [if_pos hB0, if_pos (by rw [hz]; omega)]
      rfl
    · simp only [impl_Circuit_firstWrong.l0]
      rw [if_pos (by omega)]
      rfl
end
theorem wrong_ev (n : Int) (gs : List S68) (os : List Int) (hok : okB n gs os = true) (hw : ∀ g ∈ gs, gIn g) (hw2 : ∀ o ∈ os, -32768 ≤ o ∧ o ≤ 32767) (c L : Int) (h0 : 0 ≤ L) (h2 : L ≤ 2) :
    ∃ r : WR, Ev (fun k => spec_l07Wrong.f k n gs os c L) r ∧ Ev (fun k => impl_Circuit_firstWrong.f k n gs os c L) r := by
  unfold spec_l07Wrong.f impl_Circuit_firstWrong.f spec_l07Bits.f
  rcases (show L = 0 ∨ L = 1 ∨ L = 2 by omega) with rfl | rfl | rfl
  · obtain ⟨r, e1, e2⟩ := wrong_l0 n gs os hok hw hw2 c 0 1 2 (by decide) (by decide) (by decide) (by decide) (by decide +kernel) 2 0 (by omega) (by omega)
    have a1 : IntKind.u64.wrap 1 = ((1 : Nat) : Int) := by decide +kernel
    have a2 : shl .u16 1 (shl .u64 1 0) = ((2 : Nat) : Int) := by decide +kernel
    refine ⟨r, ev_some (a := 1) (by decide +kernel) ?_, ev_pos h0 ?_⟩
    · rw [a1]; exact e1
    · rw [a2]; exact e2
  · obtain ⟨r, e1, e2⟩ := wrong_l0 n gs os hok hw hw2 c 1 2 4 (by decide) (by decide) (by decide) (by decide) (by decide +kernel) 4 0 (by omega) (by omega)
    have a1 : IntKind.u64.wrap 2 = ((2 : Nat) : Int) := by decide +kernel
    have a2 : shl .u16 1 (shl .u64 1 1) = ((4 : Nat) : Int) := by decide +kernel
    refine ⟨r, ev_some (a := 2) (by decide +kernel) ?_, ev_pos h0 ?_⟩
    · rw [a1]; exact e1
    · rw [a2]; exact e2
  · obtain ⟨r, e1, e2⟩ := wrong_l0 n gs os hok hw hw2 c 2 4 16 (by decide) (by decide) (by decide) (by decide) (by decide +kernel) 16 0 (by omega) (by omega)
    have a1 : IntKind.u64.wrap 4 = ((4 : Nat) : Int) := by decide +kernel
    have a2 : shl .u16 1 (shl .u64 1 2) = ((16 : Nat) : Int) := by decide +kernel
    refine ⟨r, ev_some (a := 4) (by decide +kernel) ?_, ev_pos h0 ?_⟩
    · rw [a1]; exact e1
    · rw [a2]; exact e2
theorem claim_ev (n : Int) (gs : List S68) (os : List Int) (c L : Int) :
    (∃ e : Int, e ≠ 0 ∧ e ≠ 4 ∧ Ev (fun k => spec_l07Claimed.f k n gs os c L) e ∧ Ev (fun k => impl_claimCode.f k n gs os c L) e)
    ∨ (okB n gs os = true ∧ 0 ≤ L ∧ L ≤ 2 ∧ Ev (fun k => spec_l07Claimed.f k n gs os c L) 0 ∧ ∃ b : Bool, spec_l07Fits.f n gs os L = some b ∧ Ev (fun k => impl_claimCode.f k n gs os c L) (if b = true then 0 else 4)) := by
  unfold spec_l07Claimed.f impl_claimCode.f
  cases hok : okB n gs os with
  | false =>
    left
    have h1 := l07Ok_ev n gs os
    have h2 := valid_ev n gs os
    rw [hok] at h1 h2
    exact ⟨1, by decide, by decide, Ev.bind h1 (ev_neg (by simp) (Ev.now _)), Ev.bind h2 (ev_neg (by simp) (Ev.now _))⟩
  | true =>
    have h1 := l07Ok_ev n gs os
    have h2 := valid_ev n gs os
    rw [hok] at h1 h2
    by_cases hc : 0 ≤ c ∧ c ≤ 1
    · by_cases hL : 0 ≤ L ∧ L ≤ 2
      · right
        refine ⟨rfl, hL.1, hL.2, Ev.bind h1 (ev_pos rfl (ev_some (l00In_eq _ _ _) (ev_pos (by simp [hc]) (ev_some (l00In_eq _ _ _) (ev_pos (by simp [hL]) (Ev.now _)))))), ?_⟩
        obtain ⟨hg, ho⟩ := okB_len hok
        have key : ∀ B : Int, shl .i64 1 (IntKind.u64.wrap L) = B → shl .i64 2 L = 2 * B → shl .i64 1 L = B → 0 ≤ IntKind.u64.wrap L → 0 ≤ B → B ≤ 4 → ∃ b : Bool, spec_l07Fits.f n gs os L = some b ∧ Ev (fun k => impl_claimCode.f k n gs os c L) (if b = true then 0 else 4) := by
          intro B b1 b2 b3 b4 b5 b6
          refine ⟨decide (wrap64 n = 2 * B) && decide ((os.length : Int) = B), ?_, ?_⟩
          · unfold spec_l07Fits.f spec_l07Bits.f
            rw [if_pos b4, b1, Option.bind_some, w64_in (x := 2 * B) (by omega) (by omega)]
            by_cases q : wrap64 n = 2 * B
            · rw [if_pos q]; simp only [q, decide_true, Bool.true_and]; rfl
            · rw [if_neg q]; simp [q]
          · unfold impl_claimCode.f
            refine Ev.bind h2 (ev_pos rfl (ev_some (within_eq _ _ _) (ev_pos (by simp [hc]) (ev_some (within_eq _ _ _) ?_))))
            refine Ev.step (f := fun _ => some (if wrap64 n = 2 * B ∧ (os.length : Int) = B then 0 else 4)) (fun k => ?_) ?_
            · simp only [impl_claimCode.j0, b2, b3]
              rw [if_neg (by simp [hL]), if_pos hL.1]
              by_cases q : wrap64 n = 2 * B <;> by_cases p : (os.length : Int) = B <;> simp [q, p]
            · by_cases q : wrap64 n = 2 * B <;> by_cases p : (os.length : Int) = B <;> simp [q, p] <;> exact Ev.now _
        have key2 := key
        unfold impl_claimCode.f at key2
        rcases (show L = 0 ∨ L = 1 ∨ L = 2 by omega) with rfl | rfl | rfl
        · exact key2 1 (by decide +kernel) (by decide +kernel) (by decide +kernel) (by decide +kernel) (by decide) (by decide)
        · exact key2 2 (by decide +kernel) (by decide +kernel) (by decide +kernel) (by decide +kernel) (by decide) (by decide)
        · exact key2 4 (by decide +kernel) (by decide +kernel) (by decide +kernel) (by decide +kernel) (by decide) (by decide)
      · left
        refine ⟨2, by decide, by decide, Ev.bind h1 (ev_pos rfl (ev_some (l00In_eq _ _ _) (ev_pos (by simp [hc]) (ev_some (l00In_eq _ _ _) (ev_neg (by simpa using hL) (Ev.now _)))))), Ev.bind h2 (ev_pos rfl (ev_some (within_eq _ _ _) (ev_pos (by simp [hc]) (ev_some (within_eq _ _ _) ?_))))⟩
        refine Ev.step (f := fun _ => some 2) (fun k => ?_) (Ev.now _)
        simp only [impl_claimCode.j0]
        rw [if_pos (by simp only [Bool.not_eq_true', Bool.and_eq_false_iff, decide_eq_false_iff_not]; omega)]
    · left
      refine ⟨2, by decide, by decide, Ev.bind h1 (ev_pos rfl (ev_some (l00In_eq _ _ _) (ev_neg (by simpa using hc) (Ev.now _)))), Ev.bind h2 (ev_pos rfl (ev_some (within_eq _ _ _) (ev_neg (by simpa using hc) ?_)))⟩
      refine Ev.step (f := fun _ => some 2) (fun k => ?_) (Ev.now _)
      simp only [impl_claimCode.j0, if_true]
theorem wf16 {x : Int} (h : (Lit.int .i16 x).wf = true) : -32768 ≤ x ∧ x ≤ 32767 := by
  simp only [Lit.wf, Bool.and_eq_true, decide_eq_true_eq] at h
  have e1 : IntKind.i16.min = -32768 := by decide +kernel
  have e2 : IntKind.i16.max = 32767 := by decide +kernel
  rw [e1, e2] at h
  exact h
theorem cv_in (l1 : List S114) (h : ∀ x ∈ l1, (Lit.int .i8 x.f0).wf = true ∧ (Lit.int .i16 x.f1).wf = true ∧ (Lit.int .i16 x.f2).wf = true) : ∀ g ∈ l1.map cvG, gIn g := by
  intro g hg
  obtain ⟨x, hx, rfl⟩ := List.mem_map.1 hg
  obtain ⟨_, h1, h2⟩ := h x hx
  obtain ⟨a1, a2⟩ := wf16 h1
  obtain ⟨a3, a4⟩ := wf16 h2
  exact ⟨a1, a2, a3, a4⟩
theorem os_in (l2 : List Int) (h : ∀ x ∈ l2, (Lit.int .i16 x).wf = true) : ∀ o ∈ l2, -32768 ≤ o ∧ o ≤ 32767 := fun o ho => wf16 (h o ho)
end Go.Proofs.Yteanndgkjoinmaa.X

namespace Go.Proofs.Yteanndgkjoinmaa.X
open Go.RowKit Go.Proofs.YteanndgkjoinmaaW.PrintWords Go.Proofs.YteanndgkjoinmaaW.PrintLast
theorem check_ev (n : Int) (gs : List S68) (os : List Int) (hw : ∀ g ∈ gs, gIn g) (hw2 : ∀ o ∈ os, -32768 ≤ o ∧ o ≤ 32767) (c L : Int) :
    ∃ r : Bool × Int, Ev (fun k => spec_CheckCircuit.f k n gs os c L) r ∧ Ev (fun k => impl_CheckCircuit.f k n gs os c L) r := by
  unfold spec_CheckCircuit.f impl_CheckCircuit.f
  rcases claim_ev n gs os c L with ⟨e, h0, h4, e1, e2⟩ | ⟨hok, hL0, hL2, e1, b, hb, e2⟩
  · exact ⟨(false, e), Ev.bind e1 (ev_neg h0 (Ev.now _)), Ev.bind e2 (ev_neg h0 (ev_neg h4 (Ev.now _)))⟩
  · cases b with
    | false => exact ⟨(false, 0), Ev.bind e1 (ev_pos rfl (ev_some hb (ev_neg (by simp) (Ev.now _)))), Ev.bind e2 (ev_neg (by decide) (ev_pos (by decide) (Ev.now _)))⟩
    | true =>
      obtain ⟨r, w1, w2⟩ := wrong_ev n gs os hok hw hw2 c L hL0 hL2
      exact ⟨(!r.2.2, 0), Ev.bind e1 (ev_pos rfl (ev_some hb (ev_pos rfl (Ev.bind w1 (Ev.now _))))), Ev.bind e2 (ev_pos (by decide) (Ev.bind w2 (Ev.now _)))⟩
end Go.Proofs.Yteanndgkjoinmaa.X
namespace Go.Proofs.Yteanndgkjoinmaa.Pure
open Go.RowKit Go.Proofs.Yteanndgkjoinmaa.X Go.Proofs.YteanndgkjoinmaaW.PrintWords Go.Proofs.YteanndgkjoinmaaW.PrintLast
theorem FnExactCheckCircuit : laws_FnExactCheckCircuit.Pure := by
  intro n l1 l2 a b _ hm1 hw1 hm2 hw2 _ _
  refine Ev.rounds ?_
  unfold laws_FnExactCheckCircuit.f
  obtain ⟨t, ht, hlen⟩ := szCircuit_eq n l1 l2 hm1 hm2
  refine ev_some ht ?_
  by_cases h0 : t < 0
  · exact ev_pos h0 (Ev.now _)
  obtain ⟨hg, ho⟩ := hlen h0
  refine ev_neg h0 ?_
  have hto := toCircuit_ev n l1 l2 hg ho
  have hgl : (l1.map cvG).length ≤ 1048576 := by simpa using hg
  obtain ⟨R, hs, hi⟩ := check_ev n (l1.map cvG) l2 (cv_in l1 hw1) (os_in l2 hw2) a b
  refine Ev.bind hto (Ev.bind hs (Ev.bind hto (Ev.bind hi (ev_neg (by simp) ?_))))
  refine Ev.step (fun k => by simp only [laws_FnExactCheckCircuit.j0, bne_self_eq_false, Bool.false_eq_true, if_false]; rfl) ?_
  exact Ev.bind hto (Ev.bind (eqCircuit_ev n (l1.map cvG) l2 hgl ho) (ev_pos rfl (Ev.now _)))
end Go.Proofs.Yteanndgkjoinmaa.Pure

-- Laid by wip/xprint.py of this session (the kit's print program, with some contracts given by hand). Not trusted: Lean checks it.
namespace Go.Proofs.Yteanndgkjoinmaa.fnExactCheckCircuit
open Go.ChangeShapes Go.WideShapes Go.ChangeAt Go.RowKit Go.Joins Go.Deep
open Go.ChangeMaps (open_string shut_string)
open Go.Proofs.YteanndgkjoinmaaW.PrintWords Go.Proofs.YteanndgkjoinmaaW.PrintLast Go.Proofs.Yteanndgkjoinmaa.X
set_option linter.unusedVariables false
theorem own : ownKnob Try.prog.godebug = none := by kernel_rfl
theorem laidOut : laidOutB Try.prog = true := by kernel_rfl
theorem open_slice_fields {H : Type} {enc : TypeId × Value → H} {P : Program} {w : World} {base : Nat} {spare : Nat → Bool} {held : Bool} {t e : TypeId} {fs : Array Field} {fuel : Nat} {cs : List Value} {x : DataW H × List MemPlace} (ht : P.underlying t = some (.slice e)) (he : P.underlying e = some (.struct fs))
    (hone : oneCellFields P fs = true) (hC : P.cellsOf e = fs.size) (h : DataW.trod enc P w base spare held fuel t cs = some x) :
    (cs = [.slice none 0 0]) ∨
    ∃ (a : Addr) (len cap m : Nat), cs = [.slice (some a) len cap] ∧ len ≤ cap ∧ cap ≤ maxLen ∧ m = (if spare a.block then cap else len) ∧
      ∀ i, i < m → ∃ (n : Nat), ∀ (j : Nat) (f : Field), fs[j]? = some f → ∃ (v : Value) (y : DataW H × List MemPlace), w.cell? (a.add (i * fs.size + j)) = some v ∧ DataW.trod enc P w base spare held n f.type [v] = some y := by
  rcases open_slice ht h with h0 | ⟨a, len, cap, m, n, D, Pl, hcs, hb, hl, hm, hmm, hx, hi⟩
  · exact .inl h0.1
  · refine .inr ⟨a, len, cap, m, hcs, hl, hm, hmm, fun i him => ?_⟩
    obtain ⟨cs', hc, ht'⟩ := hi i him
    rw [hC] at hc
    obtain ⟨ys, n', hn', hy, hlen, hyl, hf⟩ := DataW.trod_struct he ht'
    obtain ⟨_, hcl, hat⟩ := World.cells?_some hc
    refine ⟨n', fun j f hj => ?_⟩
    obtain ⟨ho, hk⟩ := hone_of hone j f hj
    have hjl : j < fs.size := (Array.getElem?_eq_some_iff.1 hj).1
    have hcell := hat j hjl
    have hv : cs'[j]? = some (cs'[j]'(by omega)) := List.getElem?_eq_getElem (by omega)
    have h1 := hf j f hj
    rw [ho, hk] at h1
    have hone' : (cs'.drop j).take 1 = [cs'[j]'(by omega)] := by
      rw [List.drop_eq_getElem_cons (by omega)]
      rfl
    rw [hone'] at h1
    have hys : ys[j]? = some (ys[j]'(by omega)) := List.getElem?_eq_getElem (by omega)
    refine ⟨_, _, ?_, h1.trans hys⟩
    rw [← Go.Deep.add_add, hcell, hv]
theorem list_of {α : Type} (Q : Nat → α → Prop) : ∀ n : Nat, (∀ i, i < n → ∃ x, Q i x) → ∃ l : List α, l.length = n ∧ ∀ i x, l[i]? = some x → Q i x
  | 0, _ => ⟨[], rfl, fun i x h => by simp at h⟩
  | n + 1, h => by
    obtain ⟨l, hl, hq⟩ := list_of Q n (fun i hi => h i (by omega))
    obtain ⟨x, hx⟩ := h n (by omega)
    refine ⟨l ++ [x], by simp [hl], fun i y hy => ?_⟩
    rcases Nat.lt_or_ge i l.length with hi | hi
    · rw [List.getElem?_append_left hi] at hy
      exact hq i y hy
    · rw [List.getElem?_append_right hi] at hy
      have : i = l.length := by
        have := (List.getElem?_eq_some_iff.1 hy).1
        simp at this
        omega
      subst this
      simp at hy
      subst hy
      rw [hl]
      exact hx
theorem open_t23 {H : Type} {enc : TypeId × Value → H} {W : World} {spare : Nat → Bool} {held : Bool} {base fuel : Nat} {c : Value} {y : DataW H × List MemPlace} (hsp : ∀ b, spare b = true) (h : DataW.trod enc Try.prog W base spare held fuel 23 [c] = some y) : ∃ (a : Option Addr) (cap : Nat) (l : List (S114)), c = .slice a l.length cap ∧ l.length ≤ cap ∧ Kd.C k114 W a l.length l ∧ l.length ≤ maxLen ∧ (∀ x ∈ l, (Lit.int .i8 x.f0).wf = true ∧ (Lit.int .i16 x.f1).wf = true ∧ (Lit.int .i16 x.f2).wf = true) := by
  rcases open_slice_fields Try.underlying23 Try.underlying114 (by kernel_rfl) (by kernel_rfl) h with hcs | ⟨x, ln, cp, m, hcs, hl, hm, hmm, hi⟩
  · obtain rfl : c = .slice none 0 0 := by simpa using hcs
    exact ⟨none, 0, [], rfl, Nat.le_refl _, Kd.C_nil _ _, by simp [maxLen], fun x hx => by cases hx⟩
  · obtain rfl : c = .slice (some x) ln cp := by simpa using hcs
    rw [if_pos (hsp _)] at hmm
    have hx : ∀ i, i < ln → ∃ s : S114, ((Lit.int .i8 s.f0).wf = true ∧ (Lit.int .i16 s.f1).wf = true ∧ (Lit.int .i16 s.f2).wf = true) ∧ W.cell? (x.add (i * 3 + 0)) = some (.int .i8 s.f0) ∧ W.cell? (x.add (i * 3 + 1)) = some (.int .i16 s.f1) ∧ W.cell? (x.add (i * 3 + 2)) = some (.int .i16 s.f2) := by
      intro i hi'
      obtain ⟨n, hf⟩ := hi i (by omega)
      obtain ⟨v0, y0, hc0, ht0⟩ := hf 0 _ rfl
      obtain ⟨z0, e0, _, w0⟩ := DataW.trod_int Try.underlying22 ht0
      obtain rfl : v0 = .int .i8 z0 := by simpa using e0
      obtain ⟨v1, y1, hc1, ht1⟩ := hf 1 _ rfl
      obtain ⟨z1, e1, _, w1⟩ := DataW.trod_int Try.underlying66 ht1
      obtain rfl : v1 = .int .i16 z1 := by simpa using e1
      obtain ⟨v2, y2, hc2, ht2⟩ := hf 2 _ rfl
      obtain ⟨z2, e2, _, w2⟩ := DataW.trod_int Try.underlying66 ht2
      obtain rfl : v2 = .int .i16 z2 := by simpa using e2
      exact ⟨⟨z0, z1, z2⟩, ⟨w0, w1, w2⟩, hc0, hc1, hc2⟩
    obtain ⟨l, hll, hq⟩ := list_of _ ln hx
    subst hll
    refine ⟨some x, cp, l, rfl, hl, ⟨rfl, by unfold maxLen at hm; omega, fun _ => ⟨x, rfl, fun j p hj => ?_⟩⟩, by omega, fun p hp => ?_⟩
    · obtain ⟨_, hc0, hc1, hc2⟩ := hq j p hj
      refine ⟨[.int .i8 p.f0, .int .i16 p.f1, .int .i16 p.f2], rfl, k114_mk _ _, fun i u hu => ?_⟩
      match i, hu with
      | 0, hu => cases hu; exact hc0
      | 1, hu => cases hu; exact hc1
      | 2, hu => cases hu; exact hc2
      | n + 3, hu => simp at hu
    · obtain ⟨j, hj⟩ := List.mem_iff_getElem?.1 hp
      exact (hq j p hj).1
theorem open_t24 {H : Type} {enc : TypeId × Value → H} {W : World} {spare : Nat → Bool} {held : Bool} {base fuel : Nat} {c : Value} {y : DataW H × List MemPlace} (hsp : ∀ b, spare b = true) (h : DataW.trod enc Try.prog W base spare held fuel 24 [c] = some y) : ∃ (a : Option Addr) (cap : Nat) (l : List Int), c = .slice a l.length cap ∧ l.length ≤ cap ∧ Kd.C (Kd.int .i16) W a l.length l ∧ l.length ≤ maxLen ∧ (∀ x ∈ l, (Lit.int .i16 x).wf = true) := by
  rcases open_ints Try.underlying24 Try.underlying66 (by kernel_rfl) h with ⟨hcs, _⟩ | ⟨x, ln, cp, zs, hcs, _, hl, hm, hz, _, hcell, hwz⟩
  · obtain rfl : c = .slice none 0 0 := by simpa using hcs
    exact ⟨none, 0, [], rfl, Nat.le_refl _, Kd.C_nil _ _, by simp [maxLen], fun x hx => by cases hx⟩
  · obtain rfl : c = .slice (some x) ln cp := by simpa using hcs
    rw [if_pos (hsp _)] at hz
    obtain ⟨l, e1, hr, h2, h3, h4⟩ := ReadsInt.ofRowC (k := .i16) (w := W) (a := some x) (len := ln) (cap := cp) (zs := zs) (.inr ⟨x, rfl, hl, hm, hz, hcell, hwz⟩)
    subst e1
    exact ⟨some x, cp, l, rfl, h4, Kd.C_of_reads (d := (0 : Int)) (h1 := fun _ => rfl) hr, h2, h3⟩
set_option maxRecDepth 100000 in
theorem lifted (os : Os) (started : os.Started) (H : Type) (enc : TypeId × Value → H) :
    ReturnsInHanded {} Try.checked os 6 .any (Rows.fnExactCheckCircuitSpec.pre6 enc Try.prog Try.f6 Rows.fnExactCheckCircuitRow.domain false) (Rows.fnExactCheckCircuitSpec.post enc Try.prog Try.f6 false true false false) := by
  refine returnsInHanded_of_change_sized (C := Try.checked) own started (by kernel_rfl) Try.func6
    (ChangeSpec.witness6 (enc := enc) (C := Try.checked) false ⟨#[], #[.agg #[.int .i8 0, .slice none 0 0, .slice none 0 0], .int .i64 0, .int .i64 0], []⟩ 8 (by kernel_rfl) (by kernel_rfl) (by kernel_rfl) (by kernel_rfl)) ?_
  intro W base args ds gs before hval0 hW hcnd hsz0 _
  have hsz : (DataW.weightsEach Try.prog (Try.f6.params.toList ++ Rows.fnExactCheckCircuitSpec.plain.varTypes Try.prog) (ds ++ gs)).all (· ≤ reachBytes) = true := hsz0
  have hval : ∀ (j : Nat) t v, Try.f6.params[j]? = some t → args[j]? = some v → Value.okWide Try.prog W .any base t v := hval0
  have hW' := hW
  obtain ⟨p, q, hA0, hV, rfl, hfz, hnd⟩ := hW
  have hA : DataW.TrodAll enc Try.prog W 0 (fun _ => true) true Try.f6.params.toList args.toList ds p := hA0
  rw [Try.params6] at hA hval hsz
  obtain ⟨v0, vs0, d0, ds0, p0, q0, hargs, rfl, rfl, h0, r0⟩ := trodAll_cons hA
  obtain ⟨v1, vs1, d1, ds1, p1, q1, rfl, rfl, rfl, h1, r1⟩ := trodAll_cons r0
  obtain ⟨v2, vs2, d2, ds2, p2, q2, rfl, rfl, rfl, h2, r2⟩ := trodAll_cons r1
  obtain ⟨rfl, rfl, rfl⟩ := trodAll_nil r2
  obtain rfl : args = #[v0, v1, v2] := by cases args; simp_all
  obtain ⟨rfl, rfl⟩ := trodVars_none hV
  have k0 := h0
  have lt0 : ∀ x ∈ p0, x.block < W.heap.size := by obtain ⟨m, hm⟩ := k0; exact DataW.trod_lt m _ _ _ hm
  obtain ⟨c0_0, c0_1, c0_2, y0_0, y0_1, y0_2, n0, rfl, _, _, g0_0, g0_1, g0_2⟩ := open_agg3 Try.underlying26 (by kernel_rfl) (by kernel_rfl) (hval 0 26 v0 rfl rfl) h0
  obtain ⟨a0_0, e0_0, _, w0_0⟩ := DataW.trod_int Try.underlying22 g0_0
  obtain rfl : c0_0 = .int .i8 a0_0 := by simpa using e0_0
  obtain ⟨A0_1, cp0_1, l0_1, e0_1, hc0_1, hr0_1, hm0_1, hw0_1⟩ := open_t23 (fun _ => rfl) g0_1
  obtain rfl := e0_1
  obtain ⟨A0_2, cp0_2, l0_2, e0_2, hc0_2, hr0_2, hm0_2, hw0_2⟩ := open_t24 (fun _ => rfl) g0_2
  obtain rfl := e0_2
  obtain ⟨a1, rfl, rfl, rfl, w1⟩ := open_int Try.underlying2 (hval 1 2 v1 rfl rfl) h1
  obtain ⟨a2, rfl, rfl, rfl, w2⟩ := open_int Try.underlying2 (hval 2 2 v2 rfl rfl) h2
  clear hA0 hval0 hsz0 hsz
  obtain ⟨k, h⟩ := Pure.FnExactCheckCircuit a0_0 l0_1 l0_2 a1 a2 w0_0 hm0_1 hw0_1 hm0_2 hw0_2 w1 w2
  refine (laws_FnExactCheckCircuit.calls k a0_0 _ _ l0_1 _ _ l0_2 a1 a2 true W hr0_1 hc0_1 hr0_2 hc0_2 h).mono fun e W' ⟨he, bel0⟩ => ?_
  have bel : Below W.heap.size W W' := bel0
  subst he
  exact ⟨_, rfl, _, _, _, [], _, [], hW', trodAll_mk1 (shut_bool Try.underlying4 _), (trodAll_cons_mk (Below.trod laidOut (by kernel_rfl) (of_decide_eq_true (by kernel_rfl)) k0 bel lt0) (trodAll_cons_mk (shut_int Try.underlying2 w1) (trodAll_cons_mk (shut_int Try.underlying2 w2) trodAll_mk0))), rfl, bel.frame _, fun h => by cases h⟩
theorem over : Rows.fnExactCheckCircuitRow.holds Try.pinned (OpenSpec.ofChange Rows.fnExactCheckCircuitSpec) :=
  OpenClaim.holds_of_wide 6 Try.f6 rfl rfl rfl rfl rfl rfl rfl ⟨rfl, rfl, rfl, rfl, rfl⟩ rfl rfl rfl rfl rfl (by kernel_rfl) Try.func6 (by kernel_rfl)
    (of_decide_eq_true (by kernel_rfl)) (by unfold Func.isWrapper; first | (rw [if_pos (by decide +kernel)]; kernel_rfl) | (rw [if_neg (by decide +kernel)]; exact ⟨rfl, rfl⟩))
    (fun os started H enc _ => lifted os started H enc)
theorem proved : Rows.FnExactCheckCircuitSaid := over
end Go.Proofs.Yteanndgkjoinmaa.fnExactCheckCircuit
namespace Go.Proofs.Yteanndgkjoinmaa
theorem fnExactCheckCircuit_holds : Rows.FnExactCheckCircuitSaid := fnExactCheckCircuit.proved
end Go.Proofs.Yteanndgkjoinmaa
