/- Texts of this claim, joined: what the claim's last text comes to. They hold without any condition beyond those that each states. -/
import Derived.Test.YteanndgkjoinmaaYTrim3
-- Laid by wip/xprint.py of this session (the kit's print program, with some contracts given by hand). Not trusted: Lean checks it.
namespace Go.Proofs.Yteanndgkjoinmaa.X
open Go.RowKit Go.Proofs.YteanndgkjoinmaaW.PrintWords Go.Proofs.YteanndgkjoinmaaW.PrintLast Go.Proofs.YteanndgkjoinmaaW.PrintMore
attribute [local go_sem] max2_int min2_int max_two min_two max_three min_three max_four min_four
set_option linter.unusedVariables false
set_option linter.unusedSimpArgs false
mutual
def spec_TrimCircuit.l0 : Nat → List Bool → List Int → Int → Int → List (S68) → List Int → Int → List (S68) → Option (Int × (List (S68)) × List Int × Int)
  | 0, _, _, _, _, _, _, _, _ => none
  | k + 1, x4, x5, x7, x102000, x102001, x102002, x111000, x111001 => if x7 < (x102001.length : Int) then (if 0 ≤ x7 then (if x7 < (x4.length : Int) then (if rdOf false x4 x7 = true then ((spec_l07Joins.f ((rd_T68 x102001 x7).f0) ((rd_T68 x102001 x7).f1) ((rd_T68 x102001 x7).f2)).bind fun t114 => (if t114 = true then (if 0 ≤ ((rd_T68 x102001 x7).f1) then (if ((rd_T68 x102001 x7).f1) < (x5.length : Int) then (if 0 ≤ ((rd_T68 x102001 x7).f2) then (if ((rd_T68 x102001 x7).f2) < (x5.length : Int) then (if x7 < (x5.length : Int) then (if x111001.length < 23456248059221 then (spec_TrimCircuit.l0 k x4 (x5.set (x7 : Int).toNat (IntKind.i16.wrap ((x111001.length : Int)))) (wrap64 (x7 + 1)) x102000 x102001 x102002 x111000 (x111001 ++ [(⟨(rd_T68 x102001 x7).f0, rd x5 ((rd_T68 x102001 x7).f1), rd x5 ((rd_T68 x102001 x7).f2)⟩ : S68)])) else (none)) else (none)) else (none)) else (none)) else (none)) else (none)) else (if x7 < (x5.length : Int) then (if x111001.length < 23456248059221 then (spec_TrimCircuit.l0 k x4 (x5.set (x7 : Int).toNat (IntKind.i16.wrap ((x111001.length : Int)))) (wrap64 (x7 + 1)) x102000 x102001 x102002 x111000 (x111001 ++ [(⟨(rd_T68 x102001 x7).f0, (rd_T68 x102001 x7).f1, (rd_T68 x102001 x7).f2⟩ : S68)])) else (none)) else (none)))) else (spec_TrimCircuit.l0 k x4 x5 (wrap64 (x7 + 1)) x102000 x102001 x102002 x111000 x111001)) else (none)) else (none)) else (spec_TrimCircuit.l1 k x5 0 x102000 x102001 x102002 x111000 x111001 ([] : List Int))
def spec_TrimCircuit.l1 : Nat → List Int → Int → Int → List (S68) → List Int → Int → List (S68) → List Int → Option (Int × (List (S68)) × List Int × Int)
  | 0, _, _, _, _, _, _, _, _ => none
  | k + 1, x5, x9, x102000, x102001, x102002, x111000, x111001, x111002 => if x9 < (x102002.length : Int) then (if 0 ≤ x9 then (if 0 ≤ (rd x102002 x9) then (if (rd x102002 x9) < (x5.length : Int) then (if x111002.length < 70368744177664 then (spec_TrimCircuit.l1 k x5 (wrap64 (x9 + 1)) x102000 x102001 x102002 x111000 x111001 (x111002 ++ [rd x5 (rd x102002 x9)])) else (none)) else (none)) else (none)) else (none)) else (some (x111000, x111001, x111002, 0))
end
def spec_TrimCircuit.f (k : Nat) (a0_0 : Int) (l0_1 : List (S68)) (l0_2 : List Int) : Option (Int × (List (S68)) × List Int × Int) := (spec_l07Ok.f k a0_0 l0_1 l0_2).bind fun t103 => (if t103 = true then ((spec_l07Needed.f k a0_0 l0_1 l0_2).bind fun t104 => (if 0 ≤ (l0_1.length : Int) then (if ((l0_1.length : Int) : Int).toNat ≤ 140737488355328 then (spec_TrimCircuit.l0 k t104 (List.replicate ((l0_1.length : Int) : Int).toNat 0) 0 a0_0 l0_1 l0_2 a0_0 ([] : List (S68))) else (none)) else (none))) else (some (0, ([] : List (S68)), ([] : List Int), 1)))
def spec_TrimCircuit.T12 : Bool × List (List Nat × List Nat) := (true, [([], []), ([0], [0]), ([], []), ([], []), ([3], [3]), ([2, 4], [2, 4]), ([5], [5]), ([], []), ([], []), ([8], [8]), ([7, 9], [7, 9]), ([10], [10]), ([1, 6, 11], [1, 6, 11]), ([12, 0, 1, 2, 3, 4, 5, 6, 7, 8, 9, 10, 11, 12], [12])])
def spec_TrimCircuit.B12 : List Nat := [0, 1, 0, 0, 8, 28, 60, 0, 0, 256, 896, 1920, 4095, 8191]
theorem spec_TrimCircuit.tab12 : rtab .any (opsOf Try.f18 12) = spec_TrimCircuit.T12 := by kernel_rfl
theorem spec_TrimCircuit.bits12 : waitsOk spec_TrimCircuit.T12.2 spec_TrimCircuit.B12 = true := by kernel_rfl
def spec_TrimCircuit.T18 : Bool × List (List Nat × List Nat) := (true, [([], []), ([0], [0]), ([], []), ([], []), ([3], [3]), ([], []), ([4, 5], [4, 5]), ([6], [6]), ([2, 7], [2, 7]), ([8], [8]), ([9], [9]), ([1, 10], [1, 10]), ([0, 1, 2, 3, 4, 5, 6, 7, 8, 9, 10, 11], []), ([12, 11, 11, 0, 1, 2, 3, 4, 5, 6, 7, 8, 9, 10, 11], [11, 12])])
def spec_TrimCircuit.B18 : List Nat := [0, 1, 0, 0, 8, 0, 56, 120, 252, 508, 1020, 2047, 4095, 8191]
theorem spec_TrimCircuit.tab18 : rtab .any (opsOf Try.f18 18) = spec_TrimCircuit.T18 := by kernel_rfl
theorem spec_TrimCircuit.bits18 : waitsOk spec_TrimCircuit.T18.2 spec_TrimCircuit.B18 = true := by kernel_rfl
set_option maxHeartbeats 8000000 in
set_option maxRecDepth 100000 in
theorem spec_TrimCircuit.calls (k : Nat) (a0_0 : Int) (A0_1 : Option Addr) (c0_1 : Nat) (l0_1 : List (S68)) (A0_2 : Option Addr) (c0_2 : Nat) (l0_2 : List Int) (r1 : Int) (r2 : List (S68)) (r3 : List Int) (r4 : Int) (w : World) (hr0_1 : Kd.C k68 w A0_1 l0_1.length l0_1) (hc0_1 : l0_1.length ≤ c0_1) (hr0_2 : Kd.C (Kd.int .i16) w A0_2 l0_2.length l0_2) (hc0_2 : l0_2.length ≤ c0_2) (h : spec_TrimCircuit.f k a0_0 l0_1 l0_2 = some (r1, r2, r3, r4)) :
    Calls Try.prog 18 #[.agg #[.int .i8 a0_0, .slice A0_1 l0_1.length c0_1, .slice A0_2 l0_2.length c0_2]] w fun e w' => ∃ v1_ v2_ : Value, e = .returned (.tuple #[.agg #[.int .i8 r1, v1_, v2_], .int .i64 r4]) ∧ Kd.R k68 68 w' w.heap.size (fun _ => True) v1_ r2 ∧ Kd.R (Kd.int .i16) 66 w' w.heap.size (fun _ => True) v2_ r3 ∧ Below w.heap.size w w' := by
  have hu30 := Try.underlying30
  have hu68 := Try.underlying68
  have HR0_1 := Aside0.mk hr0_1
  have HC0_1 := Aside0.mk hc0_1
  clear hr0_1 hc0_1
  have HR0_2 := Aside0.mk hr0_2
  have HC0_2 := Aside0.mk hc0_2
  clear hr0_2 hc0_2
  have HB := Aside0.mk (Below.refl w.heap.size w)
  have H : ((spec_l07Ok.f k a0_0 l0_1 l0_2).bind fun t103 => (if t103 = true then ((spec_l07Needed.f k a0_0 l0_1 l0_2).bind fun t104 => (if 0 ≤ (l0_1.length : Int) then (if ((l0_1.length : Int) : Int).toNat ≤ 140737488355328 then (spec_TrimCircuit.l0 k t104 (List.replicate ((l0_1.length : Int) : Int).toNat 0) 0 a0_0 l0_1 l0_2 a0_0 ([] : List (S68))) else (none)) else (none))) else (some (0, ([] : List (S68)), ([] : List Int), 1)))) = some (r1, r2, r3, r4) := h
  clear h
  replace H := Option.bind_eq_some_iff.mp H
  obtain ⟨t103, A20, H⟩ := H
  replace H : (if t103 = true then ((spec_l07Needed.f k a0_0 l0_1 l0_2).bind fun t104 => (if 0 ≤ (l0_1.length : Int) then (if ((l0_1.length : Int) : Int).toNat ≤ 140737488355328 then (spec_TrimCircuit.l0 k t104 (List.replicate ((l0_1.length : Int) : Int).toNat 0) 0 a0_0 l0_1 l0_2 a0_0 ([] : List (S68))) else (none)) else (none))) else (some (0, ([] : List (S68)), ([] : List Int), 1))) = some (r1, r2, r3, r4) := H
  have A2 := Aside0.mk A20
  clear A20
  by_cases c3 : t103 = true
  · subst c3
    have H1 : ((spec_l07Needed.f k a0_0 l0_1 l0_2).bind fun t104 => (if 0 ≤ (l0_1.length : Int) then (if ((l0_1.length : Int) : Int).toNat ≤ 140737488355328 then (spec_TrimCircuit.l0 k t104 (List.replicate ((l0_1.length : Int) : Int).toNat 0) 0 a0_0 l0_1 l0_2 a0_0 ([] : List (S68))) else (none)) else (none))) = some (r1, r2, r3, r4) := by rw [if_pos rfl] at H; exact H
    clear H
    have H := H1
    clear H1
    replace H := Option.bind_eq_some_iff.mp H
    obtain ⟨t104, A40, H⟩ := H
    replace H : (if 0 ≤ (l0_1.length : Int) then (if ((l0_1.length : Int) : Int).toNat ≤ 140737488355328 then (spec_TrimCircuit.l0 k t104 (List.replicate ((l0_1.length : Int) : Int).toNat 0) 0 a0_0 l0_1 l0_2 a0_0 ([] : List (S68))) else (none)) else (none)) = some (r1, r2, r3, r4) := H
    have A4 := Aside0.mk A40
    clear A40
    by_cases c5 : 0 ≤ (l0_1.length : Int)
    · rw [if_pos c5] at H
      have c5b0 := eq_true c5
      have c5b1 : decide (0 ≤ (l0_1.length : Int)) = true := decide_eq_true c5
      clear c5
      by_cases c6 : ((l0_1.length : Int) : Int).toNat ≤ 140737488355328
      · rw [if_pos c6] at H
        have c6b0 := eq_true c6
        have c6b1 : decide (((l0_1.length : Int) : Int).toNat ≤ 140737488355328) = true := decide_eq_true c6
        clear c6
        obtain ⟨y107, hy107⟩ : ∃ y_ : List Int, y_ = (List.replicate ((l0_1.length : Int) : Int).toNat 0) := ⟨_, rfl⟩
        replace H : (spec_TrimCircuit.l0 k t104 y107 0 a0_0 l0_1 l0_2 a0_0 ([] : List (S68))) = some (r1, r2, r3, r4) := by first | (rw [hy107]; with_reducible exact H) | (have H2_ := (Option.bind_some _ _).symm.trans H; rw [hy107]; with_reducible exact H2_) | (have H2_ := (Option.bind_some _ _).symm.trans H; with_reducible exact H2_) | with_reducible exact H | (rw [hy107]; exact H) | exact H
        have Ny107 := Aside0.mk hy107
        clear hy107
        have H' := Aside0.mk H
        clear H
        go_enter Try.func18, Try.ntmps18
        go_wp2_with (first | ((with_reducible refine gate_dst (N := 1) rfl ?_); refine box_event ?hg (N := 1) ?hd (cs := #[.int .i8 a0_0, .slice A0_1 l0_1.length c0_1, .slice A0_2 l0_2.length c0_2]) (t := 30) ?hr ?_; (case hd => rfl); (case hg => rfl); (case hr => first | (go_simp; done) | (go_simp; rfl)); intro gb101 hg w7 hbox hb; have n0_ := Aside0.mk (below_step (by repeat (first | (with_reducible first | exact HB.out | apply below_alloc | apply pw_below_drewN | apply below_drew1) | exact HB.out)) hb); have n1_ := Aside0.mk (hbox); have n2_ := Aside0.mk ((by rw [hg]; exact (below_size (by repeat (first | (with_reducible first | exact HB.out | apply below_alloc | apply pw_below_drewN | apply below_drew1) | exact HB.out))) : w.heap.size ≤ gb101)); have n3_ := Aside0.mk ((by rw [hg]; exact (below_size (by repeat (first | (with_reducible first | exact HB.out | apply below_alloc | apply pw_below_drewN | apply below_drew1) | exact HB.out))) : w.heap.size ≤ gb101)); clear HB; have HB := n0_; have BK101 := n1_; have GW101 := n2_; have GE101 := n3_; clear n0_ n1_ n2_ n3_; clear hb hbox hg) | ((with_reducible refine gate_dst (N := 2) rfl ?_); refine box_event ?hg (N := 2) ?hd (cs := #[.int .i8 0, .slice none 0 0, .slice none 0 0]) (t := 30) ?hr ?_; (case hd => rfl); (case hg => rfl); (case hr => first | (go_simp; done) | (go_simp; rfl)); intro gb102 hg w8 hbox hb; have n0_ := Aside0.mk (blk_below (g := gb101) (o := .cells #[.int .i8 a0_0, .slice A0_1 l0_1.length c0_1, .slice A0_2 l0_2.length c0_2] 30 (0, 0)) (by (with_reducible repeat (first | refine blk_drewN ?_ _ | refine blk_drew ?_ | refine blk_alloc ?_ _)); exact BK101.out) hb); have n1_ := Aside0.mk (below_step (by repeat (first | (with_reducible first | exact HB.out | apply below_alloc | apply pw_below_drewN | apply below_drew1 | refine below_set ?_ GE101.out) | exact HB.out)) hb); have n2_ := Aside0.mk (hbox); have n3_ := Aside0.mk ((by rw [hg]; exact (below_size (by repeat (first | (with_reducible first | exact HB.out | apply below_alloc | apply pw_below_drewN | apply below_drew1 | refine below_set ?_ GE101.out) | exact HB.out))) : w.heap.size ≤ gb102)); have n4_ := Aside0.mk ((by rw [hg]; exact (below_size (by repeat (first | (with_reducible first | exact HB.out | apply below_alloc | apply pw_below_drewN | apply below_drew1 | refine below_set ?_ GE101.out) | exact HB.out))) : w.heap.size ≤ gb102)); have n5_ := Aside0.mk ((by rw [hg]; exact Nat.ne_of_lt (blk_lt (g := gb101) (o := .cells #[.int .i8 a0_0, .slice A0_1 l0_1.length c0_1, .slice A0_2 l0_2.length c0_2] 30 (0, 0)) (by (with_reducible repeat (first | refine blk_drewN ?_ _ | refine blk_drew ?_ | refine blk_alloc ?_ _)); exact BK101.out)) : gb101 ≠ gb102)); have n6_ := Aside0.mk ((by rw [hg]; exact Nat.ne_of_gt (blk_lt (g := gb101) (o := .cells #[.int .i8 a0_0, .slice A0_1 l0_1.length c0_1, .slice A0_2 l0_2.length c0_2] 30 (0, 0)) (by (with_reducible repeat (first | refine blk_drewN ?_ _ | refine blk_drew ?_ | refine blk_alloc ?_ _)); exact BK101.out)) : gb102 ≠ gb101)); clear BK101; clear HB; have BK101 := n0_; have HB := n1_; have BK102 := n2_; have GW102 := n3_; have GE102 := n4_; have NB101_102 := n5_; have NB102_101 := n6_; clear n0_ n1_ n2_ n3_ n4_ n5_ n6_; clear hb hbox hg) | ((with_reducible refine gate_callee (f := 43) rfl ?_); refine goesL_ (some 10) rfl rfl Try.func43 (by kernel_rfl) rfl #[.pointer (some ⟨gb101, 0, none⟩)] rfl (by (try simp only [List.map_toArray, List.map_cons, List.map_nil]); first | done | rfl | (simp only [List.length_drop, List.length_take]; rfl)) ?_; (with_reducible refine (spec_l07Ok.calls k gb101 a0_0 A0_1 c0_1 l0_1 A0_2 c0_2 l0_2 true _ ?side1 ?side2 ?side3 ?side4 ?side5 A2.out).mono ?_); (case side1 => (with_reducible repeat (first | refine blk_drewN ?_ _ | refine blk_drew ?_ | refine blk_alloc ?_ _)); exact BK101.out); (case side2 => repeat (first | exact (Kd.C_below HR0_1.out HB.out) | (with_reducible refine Kd.C_alloc ?_ _) | (with_reducible refine Kd.C_drewN ?_ _) | (with_reducible refine Kd.C_drew ?_))); (case side3 => exact HC0_1.out); (case side4 => repeat (first | exact (Kd.C_below HR0_2.out HB.out) | (with_reducible refine Kd.C_alloc ?_ _) | (with_reducible refine Kd.C_drewN ?_ _) | (with_reducible refine Kd.C_drew ?_))); (case side5 => exact HC0_2.out); rintro e w9 ⟨rfl, hb⟩; refine ⟨_, rfl, ?_⟩; have n0_ := Aside0.mk (blk_below (g := gb101) (o := .cells #[.int .i8 a0_0, .slice A0_1 l0_1.length c0_1, .slice A0_2 l0_2.length c0_2] 30 (0, 0)) (by (with_reducible repeat (first | refine blk_drewN ?_ _ | refine blk_drew ?_ | refine blk_alloc ?_ _)); exact BK101.out) hb); have n1_ := Aside0.mk (blk_below (g := gb102) (o := .cells #[.int .i8 0, .slice none 0 0, .slice none 0 0] 30 (0, 0)) (by (with_reducible repeat (first | refine blk_drewN ?_ _ | refine blk_drew ?_ | refine blk_alloc ?_ _)); exact BK102.out) hb); have n2_ := Aside0.mk (below_step (by repeat (first | (with_reducible first | exact HB.out | apply below_alloc | apply pw_below_drewN | apply below_drew1 | refine below_set ?_ GE101.out | refine below_set ?_ GE102.out) | exact HB.out)) hb); clear BK101; clear BK102; clear HB; have BK101 := n0_; have BK102 := n1_; have HB := n2_; clear n0_ n1_ n2_; (try clear hb); (try clear hb2); (try clear hk); (try clear hi)) | ((with_reducible refine gate_callee (f := 61) rfl ?_); refine goesL_ (some 13) rfl rfl Try.func61 (by kernel_rfl) rfl #[.pointer (some ⟨gb101, 0, none⟩)] rfl (by (try simp only [List.map_toArray, List.map_cons, List.map_nil]); first | done | rfl | (simp only [List.length_drop, List.length_take]; rfl)) ?_; (with_reducible refine (spec_l07Needed.calls k gb101 a0_0 A0_1 c0_1 l0_1 A0_2 c0_2 l0_2 t104 _ ?side1 ?side2 ?side3 ?side4 ?side5 A4.out).mono ?_); (case side1 => (with_reducible repeat (first | refine blk_drewN ?_ _ | refine blk_drew ?_ | refine blk_alloc ?_ _)); exact BK101.out); (case side2 => repeat (first | exact (Kd.C_below HR0_1.out HB.out) | (with_reducible refine Kd.C_alloc ?_ _) | (with_reducible refine Kd.C_drewN ?_ _) | (with_reducible refine Kd.C_drew ?_))); (case side3 => exact HC0_1.out); (case side4 => repeat (first | exact (Kd.C_below HR0_2.out HB.out) | (with_reducible refine Kd.C_alloc ?_ _) | (with_reducible refine Kd.C_drewN ?_ _) | (with_reducible refine Kd.C_drew ?_))); (case side5 => exact HC0_2.out); rintro e w10 ⟨v105, rfl, ho0, hb⟩; refine ⟨_, rfl, ?_⟩; have n0_ := Aside0.mk (Kd.R_lower ho0 (below_size (by repeat (first | (with_reducible first | exact HB.out | apply below_alloc | apply pw_below_drewN | apply below_drew1 | refine below_set ?_ GE101.out | refine below_set ?_ GE102.out) | exact HB.out)))); have n1_ := Aside0.mk (blk_below (g := gb101) (o := .cells #[.int .i8 a0_0, .slice A0_1 l0_1.length c0_1, .slice A0_2 l0_2.length c0_2] 30 (0, 0)) (by (with_reducible repeat (first | refine blk_drewN ?_ _ | refine blk_drew ?_ | refine blk_alloc ?_ _)); exact BK101.out) hb); have n2_ := Aside0.mk (blk_below (g := gb102) (o := .cells #[.int .i8 0, .slice none 0 0, .slice none 0 0] 30 (0, 0)) (by (with_reducible repeat (first | refine blk_drewN ?_ _ | refine blk_drew ?_ | refine blk_alloc ?_ _)); exact BK102.out) hb); have n3_ := Aside0.mk (below_step (by repeat (first | (with_reducible first | exact HB.out | apply below_alloc | apply pw_below_drewN | apply below_drew1 | refine below_set ?_ GE101.out | refine below_set ?_ GE102.out) | exact HB.out)) hb); clear BK101; clear BK102; clear HB; have HO106 := n0_; have BK101 := n1_; have BK102 := n2_; have HB := n3_; clear n0_ n1_ n2_ n3_; (try clear hb); (try clear hb2); (try clear hk); (try clear hi); (try clear ho0); have hnb11 := NB101_102.out; have hnc11 := NB102_101.out; have hcz12_0 : w10.cell? ⟨gb101, 0, none⟩ = some (.int .i8 a0_0) := (blk_cell BK101.out 0).trans rfl; have hcz12_1 : w10.cell? ⟨gb101, 1, none⟩ = some (.slice A0_1 l0_1.length c0_1) := (blk_cell BK101.out 1).trans rfl; have hcz12_2 : w10.cell? ⟨gb101, 2, none⟩ = some (.slice A0_2 l0_2.length c0_2) := (blk_cell BK101.out 2).trans rfl; have hfz12_0 := blk_frozen BK101.out 0; have hfz12_1 := blk_frozen BK101.out 1; have hfz12_2 := blk_frozen BK101.out 2) | ((with_reducible refine gate_dst (N := 17) rfl ?_); refine Kd.R_make (Kd.int .i16) _ 66 rfl (N := 17) rfl 24 _ _ rfl (l0_1.length : Int) rfl rfl Try.underlying24 (.int .i16 0) 2 info66 rfl (by decide) (by omega) 0 (ok := fun _ => True) (okp := fun _ => True) rfl (fun _ hk => hk) trivial (of_decide_eq_true (by first | (with_reducible assumption) | assumption)) (Nat.le_trans (Nat.mul_le_mul_right _ (of_decide_eq_true (by first | (with_reducible assumption) | assumption) : (l0_1.length : Int).toNat ≤ 140737488355328)) (by omega)) (Below.refl _ _) (Nat.le_refl _) ?_; intro v108 w13 ho14 hb hg_ hnew_; clear hg_ hnew_; (first | rw [← Ny107.out] at ho14 | (simp only [Int.reduceToNat] at ho14; rw [← Ny107.out] at ho14)); have n0_ := Aside0.mk (Kd.R_below (by (with_reducible repeat (first | apply Kd.R_alloc | apply Kd.R_drewN | apply Kd.R_drew)); exact HO106.out) hb); have n1_ := Aside0.mk (Kd.R_lower ho14 (below_size (by repeat (first | (with_reducible first | exact HB.out | apply below_alloc | apply pw_below_drewN | apply below_drew1 | refine below_set ?_ GE101.out | refine below_set ?_ GE102.out) | exact HB.out)))); have n2_ := Aside0.mk (blk_below (g := gb101) (o := .cells #[.int .i8 a0_0, .slice A0_1 l0_1.length c0_1, .slice A0_2 l0_2.length c0_2] 30 (0, 0)) (by (with_reducible repeat (first | refine blk_drewN ?_ _ | refine blk_drew ?_ | refine blk_alloc ?_ _)); exact BK101.out) hb); have n3_ := Aside0.mk (blk_below (g := gb102) (o := .cells #[.int .i8 0, .slice none 0 0, .slice none 0 0] 30 (0, 0)) (by (with_reducible repeat (first | refine blk_drewN ?_ _ | refine blk_drew ?_ | refine blk_alloc ?_ _)); exact BK102.out) hb); have n4_ := Aside0.mk (below_step (by repeat (first | (with_reducible first | exact HB.out | apply below_alloc | apply pw_below_drewN | apply below_drew1 | refine below_set ?_ GE101.out | refine below_set ?_ GE102.out) | exact HB.out)) hb); clear HO106; clear BK101; clear BK102; clear HB; have HO106 := n0_; have HO109 := n1_; have BK101 := n2_; have BK102 := n3_; have HB := n4_; clear n0_ n1_ n2_ n3_ n4_; clear hb ho14; have hcz15_0 : w13.cell? ⟨gb101, 0, none⟩ = some (.int .i8 a0_0) := (blk_cell BK101.out 0).trans rfl; have hcz15_1 : w13.cell? ⟨gb101, 1, none⟩ = some (.slice A0_1 l0_1.length c0_1) := (blk_cell BK101.out 1).trans rfl; have hcz15_2 : w13.cell? ⟨gb101, 2, none⟩ = some (.slice A0_2 l0_2.length c0_2) := (blk_cell BK101.out 2).trans rfl; have hfz15_0 := blk_frozen BK101.out 0; have hfz15_1 := blk_frozen BK101.out 1; have hfz15_2 := blk_frozen BK101.out 2) | ((with_reducible refine gate_dst (N := 6) rfl ?_); refine box_event ?hg (N := 6) ?hd (cs := #[.int .i8 0, .slice none 0 0, .slice none 0 0]) (t := 30) ?hr ?_; (case hd => rfl); (case hg => rfl); (case hr => first | (go_simp; done) | (go_simp; rfl)); intro gb110 hg w16 hbox hb; have n0_ := Aside0.mk (Kd.R_below (by (with_reducible repeat (first | apply Kd.R_alloc | apply Kd.R_drewN | apply Kd.R_drew)); exact HO106.out) hb); have n1_ := Aside0.mk (Kd.R_below (by (with_reducible repeat (first | apply Kd.R_alloc | apply Kd.R_drewN | apply Kd.R_drew)); exact HO109.out) hb); have n2_ := Aside0.mk (blk_below (g := gb101) (o := .cells #[.int .i8 a0_0, .slice A0_1 l0_1.length c0_1, .slice A0_2 l0_2.length c0_2] 30 (0, 0)) (by (with_reducible repeat (first | refine blk_drewN ?_ _ | refine blk_drew ?_ | refine blk_alloc ?_ _)); exact BK101.out) hb); have n3_ := Aside0.mk (blk_below (g := gb102) (o := .cells #[.int .i8 0, .slice none 0 0, .slice none 0 0] 30 (0, 0)) (by (with_reducible repeat (first | refine blk_drewN ?_ _ | refine blk_drew ?_ | refine blk_alloc ?_ _)); exact BK102.out) hb); have n4_ := Aside0.mk (below_step (by repeat (first | (with_reducible first | exact HB.out | apply below_alloc | apply pw_below_drewN | apply below_drew1 | refine below_set ?_ GE101.out | refine below_set ?_ GE102.out) | exact HB.out)) hb); have n5_ := Aside0.mk (hbox); have n6_ := Aside0.mk ((by rw [hg]; exact (below_size (by repeat (first | (with_reducible first | exact HB.out | apply below_alloc | apply pw_below_drewN | apply below_drew1 | refine below_set ?_ GE101.out | refine below_set ?_ GE102.out) | exact HB.out))) : w.heap.size ≤ gb110)); have n7_ := Aside0.mk ((by rw [hg]; exact (below_size (by repeat (first | (with_reducible first | exact HB.out | apply below_alloc | apply pw_below_drewN | apply below_drew1 | refine below_set ?_ GE101.out | refine below_set ?_ GE102.out) | exact HB.out))) : w.heap.size ≤ gb110)); have n8_ := Aside0.mk ((by rw [hg]; exact Nat.ne_of_lt (blk_lt (g := gb101) (o := .cells #[.int .i8 a0_0, .slice A0_1 l0_1.length c0_1, .slice A0_2 l0_2.length c0_2] 30 (0, 0)) (by (with_reducible repeat (first | refine blk_drewN ?_ _ | refine blk_drew ?_ | refine blk_alloc ?_ _)); exact BK101.out)) : gb101 ≠ gb110)); have n9_ := Aside0.mk ((by rw [hg]; exact Nat.ne_of_gt (blk_lt (g := gb101) (o := .cells #[.int .i8 a0_0, .slice A0_1 l0_1.length c0_1, .slice A0_2 l0_2.length c0_2] 30 (0, 0)) (by (with_reducible repeat (first | refine blk_drewN ?_ _ | refine blk_drew ?_ | refine blk_alloc ?_ _)); exact BK101.out)) : gb110 ≠ gb101)); have n10_ := Aside0.mk ((by rw [hg]; exact Nat.ne_of_lt (blk_lt (g := gb102) (o := .cells #[.int .i8 0, .slice none 0 0, .slice none 0 0] 30 (0, 0)) (by (with_reducible repeat (first | refine blk_drewN ?_ _ | refine blk_drew ?_ | refine blk_alloc ?_ _)); exact BK102.out)) : gb102 ≠ gb110)); have n11_ := Aside0.mk ((by rw [hg]; exact Nat.ne_of_gt (blk_lt (g := gb102) (o := .cells #[.int .i8 0, .slice none 0 0, .slice none 0 0] 30 (0, 0)) (by (with_reducible repeat (first | refine blk_drewN ?_ _ | refine blk_drew ?_ | refine blk_alloc ?_ _)); exact BK102.out)) : gb110 ≠ gb102)); clear HO106; clear HO109; clear BK101; clear BK102; clear HB; have HO106 := n0_; have HO109 := n1_; have BK101 := n2_; have BK102 := n3_; have HB := n4_; have BK110 := n5_; have GW110 := n6_; have GE110 := n7_; have NB101_110 := n8_; have NB110_101 := n9_; have NB102_110 := n10_; have NB110_102 := n11_; clear n0_ n1_ n2_ n3_ n4_ n5_ n6_ n7_ n8_ n9_ n10_ n11_; clear hb hbox hg; have hnb17 := NB110_101.out; have hnc17 := NB101_110.out; have hnb18 := NB110_102.out; have hnc18 := NB102_110.out; have hcz19_0 : w16.cell? ⟨gb110, 0, none⟩ = some (.int .i8 0) := (blk_cell BK110.out 0).trans rfl; have hcz19_1 : w16.cell? ⟨gb110, 1, none⟩ = some (.slice none 0 0) := (blk_cell BK110.out 1).trans rfl; have hcz19_2 : w16.cell? ⟨gb110, 2, none⟩ = some (.slice none 0 0) := (blk_cell BK110.out 2).trans rfl; have hfz19_0 := blk_frozen BK110.out 0; have hfz19_1 := blk_frozen BK110.out 1; have hfz19_2 := blk_frozen BK110.out 2))
        go_loopg [7] k (fun kq v7 w' => ∃ (x5_1 : List Int) (x7_1 : Int) (x111001_1 : List (S68)) (u111001 : Value), v7 = .int .i64 x7_1 ∧ Aside0 (spec_TrimCircuit.l0 kq t104 x5_1 x7_1 a0_0 l0_1 l0_2 a0_0 x111001_1 = some (r1, r2, r3, r4)) ∧ Aside0 (kq ≤ k) ∧ Aside0 (Kd.R Kd.bool 4 w' w.heap.size (fun _ => True) v105 t104) ∧ Aside0 (Kd.R (Kd.int .i16) 66 w' w.heap.size (fun _ => True) v108 x5_1) ∧ Aside0 (Kd.R k68 68 w' w.heap.size (fun _ => True) u111001 x111001_1) ∧ Aside0 (w'.heap[gb101]? = some (.cells #[.int .i8 a0_0, (.slice A0_1 l0_1.length c0_1), (.slice A0_2 l0_2.length c0_2)] 30 (0, 0))) ∧ Aside0 (w'.heap[gb102]? = some (.cells #[.int .i8 0, (.slice none 0 0), (.slice none 0 0)] 30 (0, 0))) ∧ Aside0 (w'.heap[gb110]? = some (.cells #[.int .i8 a0_0, u111001, (.slice none 0 0)] 30 (0, 0))) ∧ Aside0 (Below w.heap.size w w'))
        case atStart => exact ⟨(y107), (0), (([] : List (S68))), (.slice none 0 0), (by first | rfl | (simp; done) | (simp [*]; done)), H', ⟨Nat.le_refl _⟩, ⟨by (with_reducible repeat (first | apply Kd.R_alloc | apply Kd.R_drewN | apply Kd.R_drew)); exact Kd.R_mono (Kd.R_far (p := ⟨gb110, 2, none⟩) (Kd.R_far (p := ⟨gb110, 1, none⟩) (Kd.R_far (p := ⟨gb110, 0, none⟩) (Kd.R_types HO106.out BK110.out (by decide)) (fun _ hk => hk.2) (.int .i8 a0_0)) (fun _ hk => hk.2) (.slice none 0 0)) (fun _ hk => hk.2) (.slice none 0 0)) (fun _ hk => trivial)⟩, ⟨by (with_reducible repeat (first | apply Kd.R_alloc | apply Kd.R_drewN | apply Kd.R_drew)); exact Kd.R_mono (Kd.R_far (p := ⟨gb110, 2, none⟩) (Kd.R_far (p := ⟨gb110, 1, none⟩) (Kd.R_far (p := ⟨gb110, 0, none⟩) (Kd.R_types HO109.out BK110.out (by decide)) (fun _ hk => hk.2) (.int .i8 a0_0)) (fun _ hk => hk.2) (.slice none 0 0)) (fun _ hk => hk.2) (.slice none 0 0)) (fun _ hk => trivial)⟩, ⟨by first | exact Kd.R_nil _ _ _ _ _ | exact Kd.N_nil _ _ _ _ _ | exact Kd.V_nil _ _ _ _ _ | exact Kd.Q_nil _ _ _ _ _ | exact Kd.S_nil _ _ _ _ _⟩, ⟨by (with_reducible repeat (first | refine blk_drewN ?_ _ | refine blk_drew ?_ | refine blk_alloc ?_ _)); refine blk_far ?_ NB101_110.out _; (with_reducible repeat (first | refine blk_drewN ?_ _ | refine blk_drew ?_ | refine blk_alloc ?_ _)); refine blk_far ?_ NB101_110.out _; (with_reducible repeat (first | refine blk_drewN ?_ _ | refine blk_drew ?_ | refine blk_alloc ?_ _)); refine blk_far ?_ NB101_110.out _; (with_reducible repeat (first | refine blk_drewN ?_ _ | refine blk_drew ?_ | refine blk_alloc ?_ _)); exact BK101.out⟩, ⟨by (with_reducible repeat (first | refine blk_drewN ?_ _ | refine blk_drew ?_ | refine blk_alloc ?_ _)); refine blk_far ?_ NB102_110.out _; (with_reducible repeat (first | refine blk_drewN ?_ _ | refine blk_drew ?_ | refine blk_alloc ?_ _)); refine blk_far ?_ NB102_110.out _; (with_reducible repeat (first | refine blk_drewN ?_ _ | refine blk_drew ?_ | refine blk_alloc ?_ _)); refine blk_far ?_ NB102_110.out _; (with_reducible repeat (first | refine blk_drewN ?_ _ | refine blk_drew ?_ | refine blk_alloc ?_ _)); exact BK102.out⟩, ⟨by (with_reducible repeat (first | refine blk_drewN ?_ _ | refine blk_drew ?_ | refine blk_alloc ?_ _)); refine blk_put (cs := #[.int .i8 a0_0, .slice none 0 0, .slice none 0 0]) ?_ 2 _ rfl; (with_reducible repeat (first | refine blk_drewN ?_ _ | refine blk_drew ?_ | refine blk_alloc ?_ _)); refine blk_put (cs := #[.int .i8 a0_0, .slice none 0 0, .slice none 0 0]) ?_ 1 _ rfl; (with_reducible repeat (first | refine blk_drewN ?_ _ | refine blk_drew ?_ | refine blk_alloc ?_ _)); refine blk_put (cs := #[.int .i8 0, .slice none 0 0, .slice none 0 0]) ?_ 0 _ rfl; (with_reducible repeat (first | refine blk_drewN ?_ _ | refine blk_drew ?_ | refine blk_alloc ?_ _)); exact BK110.out⟩, ⟨by repeat (first | (with_reducible first | exact HB.out | apply below_alloc | apply pw_below_drewN | apply below_drew1 | refine below_set ?_ GE101.out | refine below_set ?_ GE102.out | refine below_set ?_ GE110.out) | exact HB.out)⟩⟩
        case round =>
          clear H'
          try clear c1
          try clear p2
          try clear c3
          try clear c4
          try clear c5
          try clear c5b0
          try clear c5b1
          try clear c6
          try clear c6b0
          try clear c6b1
          try clear c11
          try clear c17
          try clear c18
          try clear hcz12_0
          try clear hcz12_1
          try clear hcz12_2
          try clear hcz15_0
          try clear hcz15_1
          try clear hcz15_2
          try clear hcz19_0
          try clear hcz19_1
          try clear hcz19_2
          try clear hfz12_0
          try clear hfz12_1
          try clear hfz12_2
          try clear hfz15_0
          try clear hfz15_1
          try clear hfz15_2
          try clear hfz19_0
          try clear hfz19_1
          try clear hfz19_2
          obtain ⟨x5_1, x7_1, x111001_1, u111001, rfl, HA, HK1, HO_4, HO_5, HO_111001, BK101, BK102, BK110, HB⟩ := hrel
          cases gk with
          | zero => exact absurd HA.out (by simp [spec_TrimCircuit.l0])
          | succ k1 =>
            have H := HA.out
            clear HA
            simp only [spec_TrimCircuit.l0] at H
            by_cases c20 : x7_1 < (l0_1.length : Int)
            · rw [if_pos c20] at H
              have c20b0 : decide (x7_1 < (l0_1.length : Int)) = true := decide_eq_true c20
              clear c20
              by_cases c21 : 0 ≤ x7_1
              · rw [if_pos c21] at H
                have c21b0 : decide (0 ≤ x7_1) = true := decide_eq_true c21
                clear c21
                by_cases c22 : x7_1 < (t104.length : Int)
                · rw [if_pos c22] at H
                  have c22b0 : decide (x7_1 < (t104.length : Int)) = true := decide_eq_true c22
                  clear c22
                  obtain ⟨bq23, hbq23⟩ : ∃ b_ : Bool, b_ = (rdOf false t104 x7_1) := ⟨_, rfl⟩
                  replace H : (if bq23 = true then ((spec_l07Joins.f ((rd_T68 l0_1 x7_1).f0) ((rd_T68 l0_1 x7_1).f1) ((rd_T68 l0_1 x7_1).f2)).bind fun t114 => (if t114 = true then (if 0 ≤ ((rd_T68 l0_1 x7_1).f1) then (if ((rd_T68 l0_1 x7_1).f1) < (x5_1.length : Int) then (if 0 ≤ ((rd_T68 l0_1 x7_1).f2) then (if ((rd_T68 l0_1 x7_1).f2) < (x5_1.length : Int) then (if x7_1 < (x5_1.length : Int) then (if x111001_1.length < 23456248059221 then (spec_TrimCircuit.l0 k1 t104 (x5_1.set (x7_1 : Int).toNat (IntKind.i16.wrap ((x111001_1.length : Int)))) (wrap64 (x7_1 + 1)) a0_0 l0_1 l0_2 a0_0 (x111001_1 ++ [(⟨(rd_T68 l0_1 x7_1).f0, rd x5_1 ((rd_T68 l0_1 x7_1).f1), rd x5_1 ((rd_T68 l0_1 x7_1).f2)⟩ : S68)])) else (none)) else (none)) else (none)) else (none)) else (none)) else (none)) else (if x7_1 < (x5_1.length : Int) then (if x111001_1.length < 23456248059221 then (spec_TrimCircuit.l0 k1 t104 (x5_1.set (x7_1 : Int).toNat (IntKind.i16.wrap ((x111001_1.length : Int)))) (wrap64 (x7_1 + 1)) a0_0 l0_1 l0_2 a0_0 (x111001_1 ++ [(⟨(rd_T68 l0_1 x7_1).f0, (rd_T68 l0_1 x7_1).f1, (rd_T68 l0_1 x7_1).f2⟩ : S68)])) else (none)) else (none)))) else (spec_TrimCircuit.l0 k1 t104 x5_1 (wrap64 (x7_1 + 1)) a0_0 l0_1 l0_2 a0_0 x111001_1)) = some (r1, r2, r3, r4) := by rw [← hbq23] at H; exact H
                  have Nbq23 := Aside0.mk hbq23
                  clear hbq23
                  by_cases c24 : bq23 = true
                  · subst c24
                    have H1 : ((spec_l07Joins.f ((rd_T68 l0_1 x7_1).f0) ((rd_T68 l0_1 x7_1).f1) ((rd_T68 l0_1 x7_1).f2)).bind fun t114 => (if t114 = true then (if 0 ≤ ((rd_T68 l0_1 x7_1).f1) then (if ((rd_T68 l0_1 x7_1).f1) < (x5_1.length : Int) then (if 0 ≤ ((rd_T68 l0_1 x7_1).f2) then (if ((rd_T68 l0_1 x7_1).f2) < (x5_1.length : Int) then (if x7_1 < (x5_1.length : Int) then (if x111001_1.length < 23456248059221 then (spec_TrimCircuit.l0 k1 t104 (x5_1.set (x7_1 : Int).toNat (IntKind.i16.wrap ((x111001_1.length : Int)))) (wrap64 (x7_1 + 1)) a0_0 l0_1 l0_2 a0_0 (x111001_1 ++ [(⟨(rd_T68 l0_1 x7_1).f0, rd x5_1 ((rd_T68 l0_1 x7_1).f1), rd x5_1 ((rd_T68 l0_1 x7_1).f2)⟩ : S68)])) else (none)) else (none)) else (none)) else (none)) else (none)) else (none)) else (if x7_1 < (x5_1.length : Int) then (if x111001_1.length < 23456248059221 then (spec_TrimCircuit.l0 k1 t104 (x5_1.set (x7_1 : Int).toNat (IntKind.i16.wrap ((x111001_1.length : Int)))) (wrap64 (x7_1 + 1)) a0_0 l0_1 l0_2 a0_0 (x111001_1 ++ [(⟨(rd_T68 l0_1 x7_1).f0, (rd_T68 l0_1 x7_1).f1, (rd_T68 l0_1 x7_1).f2⟩ : S68)])) else (none)) else (none)))) = some (r1, r2, r3, r4) := by rw [if_pos rfl] at H; exact H
                    clear H
                    have H := H1
                    clear H1
                    replace H := Option.bind_eq_some_iff.mp H
                    obtain ⟨t114, A250, H⟩ := H
                    replace H : (if t114 = true then (if 0 ≤ ((rd_T68 l0_1 x7_1).f1) then (if ((rd_T68 l0_1 x7_1).f1) < (x5_1.length : Int) then (if 0 ≤ ((rd_T68 l0_1 x7_1).f2) then (if ((rd_T68 l0_1 x7_1).f2) < (x5_1.length : Int) then (if x7_1 < (x5_1.length : Int) then (if x111001_1.length < 23456248059221 then (spec_TrimCircuit.l0 k1 t104 (x5_1.set (x7_1 : Int).toNat (IntKind.i16.wrap ((x111001_1.length : Int)))) (wrap64 (x7_1 + 1)) a0_0 l0_1 l0_2 a0_0 (x111001_1 ++ [(⟨(rd_T68 l0_1 x7_1).f0, rd x5_1 ((rd_T68 l0_1 x7_1).f1), rd x5_1 ((rd_T68 l0_1 x7_1).f2)⟩ : S68)])) else (none)) else (none)) else (none)) else (none)) else (none)) else (none)) else (if x7_1 < (x5_1.length : Int) then (if x111001_1.length < 23456248059221 then (spec_TrimCircuit.l0 k1 t104 (x5_1.set (x7_1 : Int).toNat (IntKind.i16.wrap ((x111001_1.length : Int)))) (wrap64 (x7_1 + 1)) a0_0 l0_1 l0_2 a0_0 (x111001_1 ++ [(⟨(rd_T68 l0_1 x7_1).f0, (rd_T68 l0_1 x7_1).f1, (rd_T68 l0_1 x7_1).f2⟩ : S68)])) else (none)) else (none))) = some (r1, r2, r3, r4) := H
                    have A25 := Aside0.mk A250
                    clear A250
                    by_cases c26 : t114 = true
                    · subst c26
                      have H1 : (if 0 ≤ ((rd_T68 l0_1 x7_1).f1) then (if ((rd_T68 l0_1 x7_1).f1) < (x5_1.length : Int) then (if 0 ≤ ((rd_T68 l0_1 x7_1).f2) then (if ((rd_T68 l0_1 x7_1).f2) < (x5_1.length : Int) then (if x7_1 < (x5_1.length : Int) then (if x111001_1.length < 23456248059221 then (spec_TrimCircuit.l0 k1 t104 (x5_1.set (x7_1 : Int).toNat (IntKind.i16.wrap ((x111001_1.length : Int)))) (wrap64 (x7_1 + 1)) a0_0 l0_1 l0_2 a0_0 (x111001_1 ++ [(⟨(rd_T68 l0_1 x7_1).f0, rd x5_1 ((rd_T68 l0_1 x7_1).f1), rd x5_1 ((rd_T68 l0_1 x7_1).f2)⟩ : S68)])) else (none)) else (none)) else (none)) else (none)) else (none)) else (none)) = some (r1, r2, r3, r4) := by rw [if_pos rfl] at H; exact H
                      clear H
                      have H := H1
                      clear H1
                      by_cases c27 : 0 ≤ ((rd_T68 l0_1 x7_1).f1)
                      · rw [if_pos c27] at H
                        have c27b0 : decide (0 ≤ ((rd_T68 l0_1 x7_1).f1)) = true := decide_eq_true c27
                        clear c27
                        by_cases c28 : ((rd_T68 l0_1 x7_1).f1) < (x5_1.length : Int)
                        · rw [if_pos c28] at H
                          have c28b0 : decide (((rd_T68 l0_1 x7_1).f1) < (x5_1.length : Int)) = true := decide_eq_true c28
                          clear c28
                          by_cases c29 : 0 ≤ ((rd_T68 l0_1 x7_1).f2)
                          · rw [if_pos c29] at H
                            have c29b0 : decide (0 ≤ ((rd_T68 l0_1 x7_1).f2)) = true := decide_eq_true c29
                            clear c29
                            by_cases c30 : ((rd_T68 l0_1 x7_1).f2) < (x5_1.length : Int)
                            · rw [if_pos c30] at H
                              have c30b0 : decide (((rd_T68 l0_1 x7_1).f2) < (x5_1.length : Int)) = true := decide_eq_true c30
                              clear c30
                              by_cases c31 : x7_1 < (x5_1.length : Int)
                              · rw [if_pos c31] at H
                                have c31b0 : decide (x7_1 < (x5_1.length : Int)) = true := decide_eq_true c31
                                clear c31
                                obtain ⟨y117, hy117⟩ : ∃ y_ : List Int, y_ = (x5_1.set (x7_1 : Int).toNat (IntKind.i16.wrap ((x111001_1.length : Int)))) := ⟨_, rfl⟩
                                replace H : (if x111001_1.length < 23456248059221 then (spec_TrimCircuit.l0 k1 t104 y117 (wrap64 (x7_1 + 1)) a0_0 l0_1 l0_2 a0_0 (x111001_1 ++ [(⟨(rd_T68 l0_1 x7_1).f0, rd x5_1 ((rd_T68 l0_1 x7_1).f1), rd x5_1 ((rd_T68 l0_1 x7_1).f2)⟩ : S68)])) else (none)) = some (r1, r2, r3, r4) := by first | (rw [hy117]; with_reducible exact H) | (have H2_ := (Option.bind_some _ _).symm.trans H; rw [hy117]; with_reducible exact H2_) | (have H2_ := (Option.bind_some _ _).symm.trans H; with_reducible exact H2_) | with_reducible exact H | (rw [hy117]; exact H) | exact H
                                have Ny117 := Aside0.mk hy117
                                clear hy117
                                by_cases c33 : x111001_1.length < 23456248059221
                                · rw [if_pos c33] at H
                                  have LMc33 := Aside0.mk c33
                                  clear c33
                                  obtain ⟨y118, hy118⟩ : ∃ y_ : List (S68), y_ = (x111001_1 ++ [(⟨(rd_T68 l0_1 x7_1).f0, rd x5_1 ((rd_T68 l0_1 x7_1).f1), rd x5_1 ((rd_T68 l0_1 x7_1).f2)⟩ : S68)]) := ⟨_, rfl⟩
                                  replace H : (spec_TrimCircuit.l0 k1 t104 y117 (wrap64 (x7_1 + 1)) a0_0 l0_1 l0_2 a0_0 y118) = some (r1, r2, r3, r4) := by first | (rw [hy118]; with_reducible exact H) | (have H2_ := (Option.bind_some _ _).symm.trans H; rw [hy118]; with_reducible exact H2_) | (have H2_ := (Option.bind_some _ _).symm.trans H; with_reducible exact H2_) | with_reducible exact H | (rw [hy118]; exact H) | exact H
                                  have Ny118 := Aside0.mk hy118
                                  clear hy118
                                  have H' := Aside0.mk H
                                  clear H
                                  have hnb34 := NB101_102.out
                                  have hnc34 := NB102_101.out
                                  have hnb35 := NB101_110.out
                                  have hnc35 := NB110_101.out
                                  have hcz36_0 : wr.cell? ⟨gb101, 0, none⟩ = some (.int .i8 a0_0) := (blk_cell BK101.out 0).trans rfl
                                  have hcz36_1 : wr.cell? ⟨gb101, 1, none⟩ = some (.slice A0_1 l0_1.length c0_1) := (blk_cell BK101.out 1).trans rfl
                                  have hcz36_2 : wr.cell? ⟨gb101, 2, none⟩ = some (.slice A0_2 l0_2.length c0_2) := (blk_cell BK101.out 2).trans rfl
                                  have hfz36_0 := blk_frozen BK101.out 0
                                  have hfz36_1 := blk_frozen BK101.out 1
                                  have hfz36_2 := blk_frozen BK101.out 2
                                  obtain ⟨Ao37, co37, eo37⟩ := Kd.R_slice HO_4.out
                                  subst eo37
                                  have p111 : 0 ≤ (x7_1 : Int) := of_decide_eq_true (by first | (with_reducible assumption) | assumption)
                                  have q111 : x7_1 < (t104.length : Int) := of_decide_eq_true (by first | (with_reducible assumption) | assumption)
                                  obtain ⟨ad111, e111, hx111_0⟩ := Kd.at_bool (Kd.R_reads' HO_4.out).2.2 x7_1 p111 q111
                                  (try rw [← Nbq23.out] at hx111_0)
                                  cases e111
                                  replace p111 := eq_true p111
                                  replace q111 := eq_true q111
                                  have p112 : 0 ≤ (x7_1 : Int) := of_decide_eq_true (by first | (with_reducible assumption) | assumption)
                                  have q112 : x7_1 < (l0_1.length : Int) := of_decide_eq_true (by first | (with_reducible assumption) | assumption)
                                  obtain ⟨ad112, e112, hx112_0, hx112_1, hx112_2⟩ := at_T68 HR0_1.out x7_1 p112 q112
                                  cases e112
                                  replace hx112_0 := (HB.out.cell (World.block_lt_of_cell? w _ hx112_0)).trans hx112_0
                                  replace hx112_1 := (HB.out.cell (World.block_lt_of_cell? w _ hx112_1)).trans hx112_1
                                  replace hx112_2 := (HB.out.cell (World.block_lt_of_cell? w _ hx112_2)).trans hx112_2
                                  replace p112 := eq_true p112
                                  replace q112 := eq_true q112
                                  try go_wp2_with (first | ((with_reducible refine gate_dst (N := 8) rfl ?_); refine box_event ?hg (N := 8) ?hd (cs := #[.int .i8 0, .int .i16 0, .int .i16 0]) (t := 68) ?hr ?_; (case hd => rfl); (case hg => rfl); (case hr => first | (go_simp; done) | (go_simp; rfl)); intro gb113 hg w38 hbox hb; have n0_ := Aside0.mk (Kd.R_below (by (with_reducible repeat (first | apply Kd.R_alloc | apply Kd.R_drewN | apply Kd.R_drew)); exact HO_4.out) hb); have n1_ := Aside0.mk (Kd.R_below (by (with_reducible repeat (first | apply Kd.R_alloc | apply Kd.R_drewN | apply Kd.R_drew)); exact HO_5.out) hb); have n2_ := Aside0.mk (Kd.R_below (Kd.R_elderB (by (with_reducible repeat (first | apply Kd.R_alloc | apply Kd.R_drewN | apply Kd.R_drew)); exact HO_111001.out) gb113 (Nat.le_of_eq hg.symm)) hb); have n3_ := Aside0.mk (blk_below (g := gb101) (o := .cells #[.int .i8 a0_0, .slice (some ad112) l0_1.length c0_1, .slice A0_2 l0_2.length c0_2] 30 (0, 0)) (by (with_reducible repeat (first | refine blk_drewN ?_ _ | refine blk_drew ?_ | refine blk_alloc ?_ _)); exact BK101.out) hb); have n4_ := Aside0.mk (blk_below (g := gb102) (o := .cells #[.int .i8 0, .slice none 0 0, .slice none 0 0] 30 (0, 0)) (by (with_reducible repeat (first | refine blk_drewN ?_ _ | refine blk_drew ?_ | refine blk_alloc ?_ _)); exact BK102.out) hb); have n5_ := Aside0.mk (blk_below (g := gb110) (o := .cells #[.int .i8 a0_0, u111001, .slice none 0 0] 30 (0, 0)) (by (with_reducible repeat (first | refine blk_drewN ?_ _ | refine blk_drew ?_ | refine blk_alloc ?_ _)); exact BK110.out) hb); have n6_ := Aside0.mk (below_step (by repeat (first | (with_reducible first | exact HB.out | apply below_alloc | apply pw_below_drewN | apply below_drew1 | refine below_set ?_ GE101.out | refine below_set ?_ GE102.out | refine below_set ?_ GE110.out) | exact HB.out)) hb); have n7_ := Aside0.mk (hbox); have n8_ := Aside0.mk ((by rw [hg]; exact (below_size (by repeat (first | (with_reducible first | exact HB.out | apply below_alloc | apply pw_below_drewN | apply below_drew1 | refine below_set ?_ GE101.out | refine below_set ?_ GE102.out | refine below_set ?_ GE110.out) | exact HB.out))) : w.heap.size ≤ gb113)); have n9_ := Aside0.mk ((by rw [hg]; exact (below_size (by repeat (first | (with_reducible first | exact HB.out | apply below_alloc | apply pw_below_drewN | apply below_drew1 | refine below_set ?_ GE101.out | refine below_set ?_ GE102.out | refine below_set ?_ GE110.out) | exact HB.out))) : w.heap.size ≤ gb113)); have n10_ := Aside0.mk ((by rw [hg]; exact Nat.ne_of_lt (blk_lt (g := gb101) (o := .cells #[.int .i8 a0_0, .slice (some ad112) l0_1.length c0_1, .slice A0_2 l0_2.length c0_2] 30 (0, 0)) (by (with_reducible repeat (first | refine blk_drewN ?_ _ | refine blk_drew ?_ | refine blk_alloc ?_ _)); exact BK101.out)) : gb101 ≠ gb113)); have n11_ := Aside0.mk ((by rw [hg]; exact Nat.ne_of_gt (blk_lt (g := gb101) (o := .cells #[.int .i8 a0_0, .slice (some ad112) l0_1.length c0_1, .slice A0_2 l0_2.length c0_2] 30 (0, 0)) (by (with_reducible repeat (first | refine blk_drewN ?_ _ | refine blk_drew ?_ | refine blk_alloc ?_ _)); exact BK101.out)) : gb113 ≠ gb101)); have n12_ := Aside0.mk ((by rw [hg]; exact Nat.ne_of_lt (blk_lt (g := gb102) (o := .cells #[.int .i8 0, .slice none 0 0, .slice none 0 0] 30 (0, 0)) (by (with_reducible repeat (first | refine blk_drewN ?_ _ | refine blk_drew ?_ | refine blk_alloc ?_ _)); exact BK102.out)) : gb102 ≠ gb113)); have n13_ := Aside0.mk ((by rw [hg]; exact Nat.ne_of_gt (blk_lt (g := gb102) (o := .cells #[.int .i8 0, .slice none 0 0, .slice none 0 0] 30 (0, 0)) (by (with_reducible repeat (first | refine blk_drewN ?_ _ | refine blk_drew ?_ | refine blk_alloc ?_ _)); exact BK102.out)) : gb113 ≠ gb102)); have n14_ := Aside0.mk ((by rw [hg]; exact Nat.ne_of_lt (blk_lt (g := gb110) (o := .cells #[.int .i8 a0_0, u111001, .slice none 0 0] 30 (0, 0)) (by (with_reducible repeat (first | refine blk_drewN ?_ _ | refine blk_drew ?_ | refine blk_alloc ?_ _)); exact BK110.out)) : gb110 ≠ gb113)); have n15_ := Aside0.mk ((by rw [hg]; exact Nat.ne_of_gt (blk_lt (g := gb110) (o := .cells #[.int .i8 a0_0, u111001, .slice none 0 0] 30 (0, 0)) (by (with_reducible repeat (first | refine blk_drewN ?_ _ | refine blk_drew ?_ | refine blk_alloc ?_ _)); exact BK110.out)) : gb113 ≠ gb110)); clear HO_4; clear HO_5; clear HO_111001; clear BK101; clear BK102; clear BK110; clear HB; have HO_4 := n0_; have HO_5 := n1_; have HO_111001 := n2_; have BK101 := n3_; have BK102 := n4_; have BK110 := n5_; have HB := n6_; have BK113 := n7_; have GW113 := n8_; have GE113 := n9_; have NB101_113 := n10_; have NB113_101 := n11_; have NB102_113 := n12_; have NB113_102 := n13_; have NB110_113 := n14_; have NB113_110 := n15_; clear n0_ n1_ n2_ n3_ n4_ n5_ n6_ n7_ n8_ n9_ n10_ n11_ n12_ n13_ n14_ n15_; clear hb hbox hg; have hnb39 := NB113_101.out; have hnc39 := NB101_113.out; have hnb40 := NB113_102.out; have hnc40 := NB102_113.out; have hnb41 := NB113_110.out; have hnc41 := NB110_113.out; have hcz42_0 : w38.cell? ⟨gb113, 0, none⟩ = some (.int .i8 0) := (blk_cell BK113.out 0).trans rfl; have hcz42_1 : w38.cell? ⟨gb113, 1, none⟩ = some (.int .i16 0) := (blk_cell BK113.out 1).trans rfl; have hcz42_2 : w38.cell? ⟨gb113, 2, none⟩ = some (.int .i16 0) := (blk_cell BK113.out 2).trans rfl; have hfz42_0 := blk_frozen BK113.out 0; have hfz42_1 := blk_frozen BK113.out 1; have hfz42_2 := blk_frozen BK113.out 2) | ((with_reducible refine gate_callee (f := 45) rfl ?_); refine goesL_ (some 39) rfl rfl Try.func45 (by kernel_rfl) rfl #[.agg #[.int .i8 ((rd_T68 l0_1 x7_1).f0), .int .i16 ((rd_T68 l0_1 x7_1).f1), .int .i16 ((rd_T68 l0_1 x7_1).f2)]] rfl (by (try simp only [List.map_toArray, List.map_cons, List.map_nil]); first | done | rfl | (simp only [List.length_drop, List.length_take]; rfl)) ?_; (with_reducible refine (spec_l07Joins.calls ((rd_T68 l0_1 x7_1).f0) ((rd_T68 l0_1 x7_1).f1) ((rd_T68 l0_1 x7_1).f2) true _ A25.out).mono ?_); rintro e w43 ⟨rfl, hb⟩; refine ⟨_, rfl, ?_⟩; have n0_ := Aside0.mk (Kd.R_below (by (with_reducible repeat (first | apply Kd.R_alloc | apply Kd.R_drewN | apply Kd.R_drew)); exact (Kd.R_mono (Kd.R_far (p := ⟨gb113, 2, none⟩) (Kd.R_far (p := ⟨gb113, 1, none⟩) (Kd.R_far (p := ⟨gb113, 0, none⟩) (Kd.R_types HO_4.out BK113.out (by decide)) (fun _ hk => hk.2) (.int .i8 ((rd_T68 l0_1 x7_1).f0))) (fun _ hk => hk.2) (.int .i16 ((rd_T68 l0_1 x7_1).f1))) (fun _ hk => hk.2) (.int .i16 ((rd_T68 l0_1 x7_1).f2))) (fun _ h_ => h_.1))) hb); have n1_ := Aside0.mk (Kd.R_below (by (with_reducible repeat (first | apply Kd.R_alloc | apply Kd.R_drewN | apply Kd.R_drew)); exact (Kd.R_mono (Kd.R_far (p := ⟨gb113, 2, none⟩) (Kd.R_far (p := ⟨gb113, 1, none⟩) (Kd.R_far (p := ⟨gb113, 0, none⟩) (Kd.R_types HO_5.out BK113.out (by decide)) (fun _ hk => hk.2) (.int .i8 ((rd_T68 l0_1 x7_1).f0))) (fun _ hk => hk.2) (.int .i16 ((rd_T68 l0_1 x7_1).f1))) (fun _ hk => hk.2) (.int .i16 ((rd_T68 l0_1 x7_1).f2))) (fun _ h_ => h_.1))) hb); have n2_ := Aside0.mk (Kd.R_below (by (with_reducible repeat (first | apply Kd.R_alloc | apply Kd.R_drewN | apply Kd.R_drew)); exact (Kd.R_mono (Kd.R_far (p := ⟨gb113, 2, none⟩) (Kd.R_far (p := ⟨gb113, 1, none⟩) (Kd.R_far (p := ⟨gb113, 0, none⟩) (Kd.R_mono HO_111001.out (fun k_ hk => (⟨hk, hk.2⟩ : _ ∧ k_ ≠ gb113))) (fun _ hk => hk.2) (.int .i8 ((rd_T68 l0_1 x7_1).f0))) (fun _ hk => hk.2) (.int .i16 ((rd_T68 l0_1 x7_1).f1))) (fun _ hk => hk.2) (.int .i16 ((rd_T68 l0_1 x7_1).f2))) (fun _ h_ => h_.1))) hb); have n3_ := Aside0.mk (blk_below (g := gb101) (o := .cells #[.int .i8 a0_0, .slice (some ad112) l0_1.length c0_1, .slice A0_2 l0_2.length c0_2] 30 (0, 0)) (by (with_reducible repeat (first | refine blk_drewN ?_ _ | refine blk_drew ?_ | refine blk_alloc ?_ _)); refine blk_far ?_ NB101_113.out _; (with_reducible repeat (first | refine blk_drewN ?_ _ | refine blk_drew ?_ | refine blk_alloc ?_ _)); refine blk_far ?_ NB101_113.out _; (with_reducible repeat (first | refine blk_drewN ?_ _ | refine blk_drew ?_ | refine blk_alloc ?_ _)); refine blk_far ?_ NB101_113.out _; (with_reducible repeat (first | refine blk_drewN ?_ _ | refine blk_drew ?_ | refine blk_alloc ?_ _)); exact BK101.out) hb); have n4_ := Aside0.mk (blk_below (g := gb102) (o := .cells #[.int .i8 0, .slice none 0 0, .slice none 0 0] 30 (0, 0)) (by (with_reducible repeat (first | refine blk_drewN ?_ _ | refine blk_drew ?_ | refine blk_alloc ?_ _)); refine blk_far ?_ NB102_113.out _; (with_reducible repeat (first | refine blk_drewN ?_ _ | refine blk_drew ?_ | refine blk_alloc ?_ _)); refine blk_far ?_ NB102_113.out _; (with_reducible repeat (first | refine blk_drewN ?_ _ | refine blk_drew ?_ | refine blk_alloc ?_ _)); refine blk_far ?_ NB102_113.out _; (with_reducible repeat (first | refine blk_drewN ?_ _ | refine blk_drew ?_ | refine blk_alloc ?_ _)); exact BK102.out) hb); have n5_ := Aside0.mk (blk_below (g := gb110) (o := .cells #[.int .i8 a0_0, u111001, .slice none 0 0] 30 (0, 0)) (by (with_reducible repeat (first | refine blk_drewN ?_ _ | refine blk_drew ?_ | refine blk_alloc ?_ _)); refine blk_far ?_ NB110_113.out _; (with_reducible repeat (first | refine blk_drewN ?_ _ | refine blk_drew ?_ | refine blk_alloc ?_ _)); refine blk_far ?_ NB110_113.out _; (with_reducible repeat (first | refine blk_drewN ?_ _ | refine blk_drew ?_ | refine blk_alloc ?_ _)); refine blk_far ?_ NB110_113.out _; (with_reducible repeat (first | refine blk_drewN ?_ _ | refine blk_drew ?_ | refine blk_alloc ?_ _)); exact BK110.out) hb); have n6_ := Aside0.mk (blk_below (g := gb113) (o := .cells #[.int .i8 ((rd_T68 l0_1 x7_1).f0), .int .i16 ((rd_T68 l0_1 x7_1).f1), .int .i16 ((rd_T68 l0_1 x7_1).f2)] 68 (0, 0)) (by (with_reducible repeat (first | refine blk_drewN ?_ _ | refine blk_drew ?_ | refine blk_alloc ?_ _)); refine blk_put (cs := #[.int .i8 ((rd_T68 l0_1 x7_1).f0), .int .i16 ((rd_T68 l0_1 x7_1).f1), .int .i16 0]) ?_ 2 _ rfl; (with_reducible repeat (first | refine blk_drewN ?_ _ | refine blk_drew ?_ | refine blk_alloc ?_ _)); refine blk_put (cs := #[.int .i8 ((rd_T68 l0_1 x7_1).f0), .int .i16 0, .int .i16 0]) ?_ 1 _ rfl; (with_reducible repeat (first | refine blk_drewN ?_ _ | refine blk_drew ?_ | refine blk_alloc ?_ _)); refine blk_put (cs := #[.int .i8 0, .int .i16 0, .int .i16 0]) ?_ 0 _ rfl; (with_reducible repeat (first | refine blk_drewN ?_ _ | refine blk_drew ?_ | refine blk_alloc ?_ _)); exact BK113.out) hb); have n7_ := Aside0.mk (below_step (by repeat (first | (with_reducible first | exact HB.out | apply below_alloc | apply pw_below_drewN | apply below_drew1 | refine below_set ?_ GE101.out | refine below_set ?_ GE102.out | refine below_set ?_ GE110.out | refine below_set ?_ GE113.out) | exact HB.out)) hb); clear HO_4; clear HO_5; clear HO_111001; clear BK101; clear BK102; clear BK110; clear BK113; clear HB; have HO_4 := n0_; have HO_5 := n1_; have HO_111001 := n2_; have BK101 := n3_; have BK102 := n4_; have BK110 := n5_; have BK113 := n6_; have HB := n7_; clear n0_ n1_ n2_ n3_ n4_ n5_ n6_ n7_; (try clear hb); (try clear hb2); (try clear hk); (try clear hi)))
                                  have n0_ := Aside0.mk (Kd.R_drew HO_4.out)
                                  have n1_ := Aside0.mk (Kd.R_drew HO_5.out)
                                  have n2_ := Aside0.mk (Kd.R_drew HO_111001.out)
                                  have n3_ := Aside0.mk (blk_drew BK101.out)
                                  have n4_ := Aside0.mk (blk_drew BK102.out)
                                  have n5_ := Aside0.mk (blk_drew BK110.out)
                                  have n6_ := Aside0.mk (blk_drew BK113.out)
                                  have n7_ := Aside0.mk (below_drew1 HB.out)
                                  clear HO_4
                                  clear HO_5
                                  clear HO_111001
                                  clear BK101
                                  clear BK102
                                  clear BK110
                                  clear BK113
                                  clear HB
                                  have HO_4 := n0_
                                  have HO_5 := n1_
                                  have HO_111001 := n2_
                                  have BK101 := n3_
                                  have BK102 := n4_
                                  have BK110 := n5_
                                  have BK113 := n6_
                                  have HB := n7_
                                  clear n0_ n1_ n2_ n3_ n4_ n5_ n6_ n7_
                                  obtain ⟨Ao45, co45, eo45⟩ := Kd.R_slice HO_5.out
                                  (first | subst eo45 | (injection eo45 with f1_ f2_ f3_; have f4_ := f1_.symm; have f5_ := f3_.symm; clear f1_ f2_ f3_; subst f4_; subst f5_))
                                  have p115 : 0 ≤ (((rd_T68 l0_1 x7_1).f1) : Int) := of_decide_eq_true (by first | (with_reducible assumption) | assumption)
                                  have q115 : ((rd_T68 l0_1 x7_1).f1) < (x5_1.length : Int) := of_decide_eq_true (by first | (with_reducible assumption) | assumption)
                                  obtain ⟨ad115, e115, hx115_0⟩ := Kd.at_int (Kd.R_reads' HO_5.out).2.2 ((rd_T68 l0_1 x7_1).f1) p115 q115
                                  cases e115
                                  replace p115 := eq_true p115
                                  replace q115 := eq_true q115
                                  have p116 : 0 ≤ (((rd_T68 l0_1 x7_1).f2) : Int) := of_decide_eq_true (by first | (with_reducible assumption) | assumption)
                                  have q116 : ((rd_T68 l0_1 x7_1).f2) < (x5_1.length : Int) := of_decide_eq_true (by first | (with_reducible assumption) | assumption)
                                  obtain ⟨ad116, e116, hx116_0⟩ := Kd.at_int (Kd.R_reads' HO_5.out).2.2 ((rd_T68 l0_1 x7_1).f2) p116 q116
                                  obtain rfl : ad115 = ad116 := (by injection e116)
                                  replace p116 := eq_true p116
                                  replace q116 := eq_true q116
                                  refine start_ (n := 14) (S := fun w' => w'.cell? ⟨gb113, 0, none⟩ = some (.int .i8 ((rd_T68 l0_1 x7_1).f0)) ∧ w'.cell? ⟨gb113, 1, none⟩ = some (.int .i16 ((rd_T68 l0_1 x7_1).f1)) ∧ w'.cell? ⟨gb113, 2, none⟩ = some (.int .i16 ((rd_T68 l0_1 x7_1).f2)) ∧ w'.cell? (ad115.add (((rd_T68 l0_1 x7_1).f1)).toNat) = some (.int .i16 (rd x5_1 ((rd_T68 l0_1 x7_1).f1))) ∧ w'.cell? (ad115.add (((rd_T68 l0_1 x7_1).f2)).toNat) = some (.int .i16 (rd x5_1 ((rd_T68 l0_1 x7_1).f2)))) (ds := [13]) #[false, false, false, false, false, false, false, false, false, false, false, false, false, false] (by kernel_rfl) rfl rfl ⟨(blk_cell BK113.out 0).trans rfl, (blk_cell BK113.out 1).trans rfl, (blk_cell BK113.out 2).trans rfl, hx115_0, hx116_0⟩ (fun hHeld => ?_); refine with_tabW spec_TrimCircuit.tab12 spec_TrimCircuit.bits12 (fun HT_ HW_ => ?_)
                                  generalize w43.drew = w44 at HO_4 HO_5 HO_111001 BK101 BK102 BK110 BK113 HB hx115_0 hx116_0 hHeld ⊢
                                  refine pure_ (i := 0) (N := some 40) (v := ?_) (a' := ?_) #[true, false, false, false, false, false, false, false, false, false, false, false, false, false] rfl rfl (any_of HT_.out (by kernel_rfl)) (fun _ _ _ h => h) (Or.inl ⟨by rfl, ?_⟩) ?_ ?_
                                  rotate_left
                                  · intro w'
                                    go_simp
                                    with_reducible rfl
                                  rotate_left
                                  · simp only [Act.put, List.setIfInBounds_toArray, List.set_cons_zero, List.set_cons_succ, i64_w, i32_w]
                                    rfl
                                  refine pure_ (i := 2) (N := some 42) (v := ?_) (a' := ?_) #[true, false, true, false, false, false, false, false, false, false, false, false, false, false] rfl rfl (any_of HT_.out (by kernel_rfl)) (fun _ _ _ h => h) (Or.inl ⟨by rfl, ?_⟩) ?_ ?_
                                  rotate_left
                                  · intro w'
                                    go_simp
                                    with_reducible rfl
                                  rotate_left
                                  · simp only [Act.put, List.setIfInBounds_toArray, List.set_cons_zero, List.set_cons_succ, i64_w, i32_w]
                                    rfl
                                  refine pure_ (i := 3) (N := some 43) (v := ?_) (a' := ?_) #[true, false, true, true, false, false, false, false, false, false, false, false, false, false] rfl rfl (any_of HT_.out (by kernel_rfl)) (fun _ _ _ h => h) (Or.inl ⟨by rfl, ?_⟩) ?_ ?_
                                  rotate_left
                                  · intro w'
                                    go_simp
                                    with_reducible rfl
                                  rotate_left
                                  · simp only [Act.put, List.setIfInBounds_toArray, List.set_cons_zero, List.set_cons_succ, i64_w, i32_w]
                                    rfl
                                  refine pure_ (i := 7) (N := some 47) (v := ?_) (a' := ?_) #[true, false, true, true, false, false, false, true, false, false, false, false, false, false] rfl rfl (any_of HT_.out (by kernel_rfl)) (fun _ _ _ h => h) (Or.inl ⟨by rfl, ?_⟩) ?_ ?_
                                  rotate_left
                                  · intro w'
                                    go_simp
                                    with_reducible rfl
                                  rotate_left
                                  · simp only [Act.put, List.setIfInBounds_toArray, List.set_cons_zero, List.set_cons_succ, i64_w, i32_w]
                                    rfl
                                  refine pure_ (i := 8) (N := some 48) (v := ?_) (a' := ?_) #[true, false, true, true, false, false, false, true, true, false, false, false, false, false] rfl rfl (any_of HT_.out (by kernel_rfl)) (fun _ _ _ h => h) (Or.inl ⟨by rfl, ?_⟩) ?_ ?_
                                  rotate_left
                                  · intro w'
                                    go_simp
                                    with_reducible rfl
                                  rotate_left
                                  · simp only [Act.put, List.setIfInBounds_toArray, List.set_cons_zero, List.set_cons_succ, i64_w, i32_w]
                                    rfl
                                  refine take_ (i := 1) (N := some 41) (v := ?_) (a' := ?_) #[true, true, true, true, false, false, false, true, true, false, false, false, false, false] rfl rfl (take_ofW HT_.out HW_.out (by kernel_rfl)) (fun _ _ _ h => h) (Or.inl ⟨by rfl, ?_⟩) hHeld ?_ ?_
                                  rotate_left
                                  · rintro w' ⟨s0, s1, s2, s3, s4⟩
                                    go_simp
                                    with_reducible rfl
                                  rotate_left
                                  · simp only [Act.put, List.setIfInBounds_toArray, List.set_cons_zero, List.set_cons_succ, i64_w, i32_w]
                                    rfl
                                  refine take_ (i := 4) (N := some 44) (v := ?_) (a' := ?_) #[true, true, true, true, true, false, false, true, true, false, false, false, false, false] rfl rfl (take_ofW HT_.out HW_.out (by kernel_rfl)) (fun _ _ _ h => h) (Or.inl ⟨by rfl, ?_⟩) hHeld ?_ ?_
                                  rotate_left
                                  · rintro w' ⟨s0, s1, s2, s3, s4⟩
                                    go_simp
                                    with_reducible rfl
                                  rotate_left
                                  · simp only [Act.put, List.setIfInBounds_toArray, List.set_cons_zero, List.set_cons_succ, i64_w, i32_w]
                                    rfl
                                  refine pure_ (i := 5) (N := some 45) (v := ?_) (a' := ?_) #[true, true, true, true, true, true, false, true, true, false, false, false, false, false] rfl rfl (any_of HT_.out (by kernel_rfl)) (fun _ _ _ h => h) (Or.inl ⟨by rfl, ?_⟩) ?_ ?_
                                  rotate_left
                                  · intro w'
                                    go_simp
                                    with_reducible rfl
                                  rotate_left
                                  · simp only [Act.put, List.setIfInBounds_toArray, List.set_cons_zero, List.set_cons_succ, i64_w, i32_w]
                                    rfl
                                  refine take_ (i := 6) (N := some 46) (v := ?_) (a' := ?_) #[true, true, true, true, true, true, true, true, true, false, false, false, false, false] rfl rfl (take_ofW HT_.out HW_.out (by kernel_rfl)) (fun _ _ _ h => h) (Or.inl ⟨by rfl, ?_⟩) hHeld ?_ ?_
                                  rotate_left
                                  · rintro w' ⟨s0, s1, s2, s3, s4⟩
                                    go_simp
                                    with_reducible rfl
                                  rotate_left
                                  · simp only [Act.put, List.setIfInBounds_toArray, List.set_cons_zero, List.set_cons_succ, i64_w, i32_w]
                                    rfl
                                  refine take_ (i := 9) (N := some 49) (v := ?_) (a' := ?_) #[true, true, true, true, true, true, true, true, true, true, false, false, false, false] rfl rfl (take_ofW HT_.out HW_.out (by kernel_rfl)) (fun _ _ _ h => h) (Or.inl ⟨by rfl, ?_⟩) hHeld ?_ ?_
                                  rotate_left
                                  · rintro w' ⟨s0, s1, s2, s3, s4⟩
                                    go_simp
                                    with_reducible rfl
                                  rotate_left
                                  · simp only [Act.put, List.setIfInBounds_toArray, List.set_cons_zero, List.set_cons_succ, i64_w, i32_w]
                                    rfl
                                  refine pure_ (i := 10) (N := some 50) (v := ?_) (a' := ?_) #[true, true, true, true, true, true, true, true, true, true, true, false, false, false] rfl rfl (any_of HT_.out (by kernel_rfl)) (fun _ _ _ h => h) (Or.inl ⟨by rfl, ?_⟩) ?_ ?_
                                  rotate_left
                                  · intro w'
                                    go_simp
                                    with_reducible rfl
                                  rotate_left
                                  · simp only [Act.put, List.setIfInBounds_toArray, List.set_cons_zero, List.set_cons_succ, i64_w, i32_w]
                                    rfl
                                  refine take_ (i := 11) (N := some 51) (v := ?_) (a' := ?_) #[true, true, true, true, true, true, true, true, true, true, true, true, false, false] rfl rfl (take_ofW HT_.out HW_.out (by kernel_rfl)) (fun _ _ _ h => h) (Or.inl ⟨by rfl, ?_⟩) hHeld ?_ ?_
                                  rotate_left
                                  · rintro w' ⟨s0, s1, s2, s3, s4⟩
                                    go_simp
                                    with_reducible rfl
                                  rotate_left
                                  · simp only [Act.put, List.setIfInBounds_toArray, List.set_cons_zero, List.set_cons_succ, i64_w, i32_w]
                                    rfl
                                  refine pure_ (i := 12) (N := some 52) (v := ?_) (a' := ?_) #[true, true, true, true, true, true, true, true, true, true, true, true, true, false] rfl rfl (any_of HT_.out (by kernel_rfl)) (fun _ _ _ h => h) (Or.inl ⟨by rfl, ?_⟩) ?_ ?_
                                  rotate_left
                                  · intro w'
                                    go_simp
                                    with_reducible rfl
                                  rotate_left
                                  · simp only [Act.put, List.setIfInBounds_toArray, List.set_cons_zero, List.set_cons_succ, i64_w, i32_w]
                                    rfl
                                  refine last_ (i := 13) (N := none) #[true, true, true, true, true, true, true, true, true, true, true, true, true, true] rfl rfl (one_of HT_.out (by kernel_rfl)) (by decide) (fun K hK => ?_)
                                  have hs46 : w44.cell? ⟨gb113, 0, none⟩ = some (.int .i8 ((rd_T68 l0_1 x7_1).f0)) := (blk_cell BK113.out 0).trans rfl
                                  have hfs46 := blk_frozen BK113.out 0
                                  have hns46_0 := NB101_113.out
                                  have hns46_1 := NB102_113.out
                                  have hns46_2 := NB110_113.out
                                  have hms46_0 := NB113_101.out
                                  have hms46_1 := NB113_102.out
                                  have hms46_2 := NB113_110.out
                                  have hs47 : w44.cell? ⟨gb113, 1, none⟩ = some (.int .i16 ((rd_T68 l0_1 x7_1).f1)) := (blk_cell BK113.out 1).trans rfl
                                  have hfs47 := blk_frozen BK113.out 1
                                  have hns47_0 := NB101_113.out
                                  have hns47_1 := NB102_113.out
                                  have hns47_2 := NB110_113.out
                                  have hms47_0 := NB113_101.out
                                  have hms47_1 := NB113_102.out
                                  have hms47_2 := NB113_110.out
                                  have hs48 : w44.cell? ⟨gb113, 2, none⟩ = some (.int .i16 ((rd_T68 l0_1 x7_1).f2)) := (blk_cell BK113.out 2).trans rfl
                                  have hfs48 := blk_frozen BK113.out 2
                                  have hns48_0 := NB101_113.out
                                  have hns48_1 := NB102_113.out
                                  have hns48_2 := NB110_113.out
                                  have hms48_0 := NB113_101.out
                                  have hms48_1 := NB113_102.out
                                  have hms48_2 := NB113_110.out
                                  refine skip_ (w1 := ?_) (by rfl) rfl ?_ ?_
                                  rotate_left
                                  · go_simp
                                    rfl
                                  refine hK.out _ _ ?_
                                  clear hK K
                                  refine done_ (done_of HT_.out (by kernel_rfl)) ?_
                                  have n0_ : Aside0 (Kd.R Kd.bool 4 (((w44.setCell ⟨gb113, 0, none⟩ (.int .i8 ((rd_T68 l0_1 x7_1).f0))).setCell ⟨gb113, 1, none⟩ (.int .i16 (rd x5_1 ((rd_T68 l0_1 x7_1).f1)))).setCell ⟨gb113, 2, none⟩ (.int .i16 (rd x5_1 ((rd_T68 l0_1 x7_1).f2)))) w.heap.size (fun _ => True) (.slice (some ad111) t104.length co37) t104) := ⟨by (with_reducible repeat (first | apply Kd.R_alloc | apply Kd.R_drewN | apply Kd.R_drew)); exact Kd.R_mono (Kd.R_far (p := ⟨gb113, 2, none⟩) (Kd.R_far (p := ⟨gb113, 1, none⟩) (Kd.R_far (p := ⟨gb113, 0, none⟩) (Kd.R_types HO_4.out BK113.out (by decide)) (fun _ hk => hk.2) (.int .i8 ((rd_T68 l0_1 x7_1).f0))) (fun _ hk => hk.2) (.int .i16 (rd x5_1 ((rd_T68 l0_1 x7_1).f1)))) (fun _ hk => hk.2) (.int .i16 (rd x5_1 ((rd_T68 l0_1 x7_1).f2)))) (fun _ hk => trivial)⟩
                                  have n1_ : Aside0 (Kd.R (Kd.int .i16) 66 (((w44.setCell ⟨gb113, 0, none⟩ (.int .i8 ((rd_T68 l0_1 x7_1).f0))).setCell ⟨gb113, 1, none⟩ (.int .i16 (rd x5_1 ((rd_T68 l0_1 x7_1).f1)))).setCell ⟨gb113, 2, none⟩ (.int .i16 (rd x5_1 ((rd_T68 l0_1 x7_1).f2)))) w.heap.size (fun _ => True) (.slice (some ad115) x5_1.length co45) x5_1) := ⟨by (with_reducible repeat (first | apply Kd.R_alloc | apply Kd.R_drewN | apply Kd.R_drew)); exact Kd.R_mono (Kd.R_far (p := ⟨gb113, 2, none⟩) (Kd.R_far (p := ⟨gb113, 1, none⟩) (Kd.R_far (p := ⟨gb113, 0, none⟩) (Kd.R_types HO_5.out BK113.out (by decide)) (fun _ hk => hk.2) (.int .i8 ((rd_T68 l0_1 x7_1).f0))) (fun _ hk => hk.2) (.int .i16 (rd x5_1 ((rd_T68 l0_1 x7_1).f1)))) (fun _ hk => hk.2) (.int .i16 (rd x5_1 ((rd_T68 l0_1 x7_1).f2)))) (fun _ hk => trivial)⟩
                                  have n2_ : Aside0 (Kd.R k68 68 (((w44.setCell ⟨gb113, 0, none⟩ (.int .i8 ((rd_T68 l0_1 x7_1).f0))).setCell ⟨gb113, 1, none⟩ (.int .i16 (rd x5_1 ((rd_T68 l0_1 x7_1).f1)))).setCell ⟨gb113, 2, none⟩ (.int .i16 (rd x5_1 ((rd_T68 l0_1 x7_1).f2)))) w.heap.size (fun k_ => k_ ≠ gb113) u111001 x111001_1) := ⟨by (with_reducible repeat (first | apply Kd.R_alloc | apply Kd.R_drewN | apply Kd.R_drew)); exact Kd.R_mono (Kd.R_far (p := ⟨gb113, 2, none⟩) (Kd.R_far (p := ⟨gb113, 1, none⟩) (Kd.R_far (p := ⟨gb113, 0, none⟩) (Kd.R_mono HO_111001.out (fun k_ hk => (⟨hk, hk.2⟩ : _ ∧ k_ ≠ gb113))) (fun _ hk => hk.2) (.int .i8 ((rd_T68 l0_1 x7_1).f0))) (fun _ hk => hk.2) (.int .i16 (rd x5_1 ((rd_T68 l0_1 x7_1).f1)))) (fun _ hk => hk.2) (.int .i16 (rd x5_1 ((rd_T68 l0_1 x7_1).f2)))) (fun _ hk => hk.1.2)⟩
                                  have n3_ : Aside0 ((((w44.setCell ⟨gb113, 0, none⟩ (.int .i8 ((rd_T68 l0_1 x7_1).f0))).setCell ⟨gb113, 1, none⟩ (.int .i16 (rd x5_1 ((rd_T68 l0_1 x7_1).f1)))).setCell ⟨gb113, 2, none⟩ (.int .i16 (rd x5_1 ((rd_T68 l0_1 x7_1).f2)))).heap[gb101]? = some (.cells #[.int .i8 a0_0, .slice (some ad112) l0_1.length c0_1, .slice A0_2 l0_2.length c0_2] 30 (0, 0))) := ⟨by (with_reducible repeat (first | refine blk_drewN ?_ _ | refine blk_drew ?_ | refine blk_alloc ?_ _)); refine blk_far ?_ NB101_113.out _; (with_reducible repeat (first | refine blk_drewN ?_ _ | refine blk_drew ?_ | refine blk_alloc ?_ _)); refine blk_far ?_ NB101_113.out _; (with_reducible repeat (first | refine blk_drewN ?_ _ | refine blk_drew ?_ | refine blk_alloc ?_ _)); refine blk_far ?_ NB101_113.out _; (with_reducible repeat (first | refine blk_drewN ?_ _ | refine blk_drew ?_ | refine blk_alloc ?_ _)); exact BK101.out⟩
                                  have n4_ : Aside0 ((((w44.setCell ⟨gb113, 0, none⟩ (.int .i8 ((rd_T68 l0_1 x7_1).f0))).setCell ⟨gb113, 1, none⟩ (.int .i16 (rd x5_1 ((rd_T68 l0_1 x7_1).f1)))).setCell ⟨gb113, 2, none⟩ (.int .i16 (rd x5_1 ((rd_T68 l0_1 x7_1).f2)))).heap[gb102]? = some (.cells #[.int .i8 0, .slice none 0 0, .slice none 0 0] 30 (0, 0))) := ⟨by (with_reducible repeat (first | refine blk_drewN ?_ _ | refine blk_drew ?_ | refine blk_alloc ?_ _)); refine blk_far ?_ NB102_113.out _; (with_reducible repeat (first | refine blk_drewN ?_ _ | refine blk_drew ?_ | refine blk_alloc ?_ _)); refine blk_far ?_ NB102_113.out _; (with_reducible repeat (first | refine blk_drewN ?_ _ | refine blk_drew ?_ | refine blk_alloc ?_ _)); refine blk_far ?_ NB102_113.out _; (with_reducible repeat (first | refine blk_drewN ?_ _ | refine blk_drew ?_ | refine blk_alloc ?_ _)); exact BK102.out⟩
                                  have n5_ : Aside0 ((((w44.setCell ⟨gb113, 0, none⟩ (.int .i8 ((rd_T68 l0_1 x7_1).f0))).setCell ⟨gb113, 1, none⟩ (.int .i16 (rd x5_1 ((rd_T68 l0_1 x7_1).f1)))).setCell ⟨gb113, 2, none⟩ (.int .i16 (rd x5_1 ((rd_T68 l0_1 x7_1).f2)))).heap[gb110]? = some (.cells #[.int .i8 a0_0, u111001, .slice none 0 0] 30 (0, 0))) := ⟨by (with_reducible repeat (first | refine blk_drewN ?_ _ | refine blk_drew ?_ | refine blk_alloc ?_ _)); refine blk_far ?_ NB110_113.out _; (with_reducible repeat (first | refine blk_drewN ?_ _ | refine blk_drew ?_ | refine blk_alloc ?_ _)); refine blk_far ?_ NB110_113.out _; (with_reducible repeat (first | refine blk_drewN ?_ _ | refine blk_drew ?_ | refine blk_alloc ?_ _)); refine blk_far ?_ NB110_113.out _; (with_reducible repeat (first | refine blk_drewN ?_ _ | refine blk_drew ?_ | refine blk_alloc ?_ _)); exact BK110.out⟩
                                  have n6_ : Aside0 ((((w44.setCell ⟨gb113, 0, none⟩ (.int .i8 ((rd_T68 l0_1 x7_1).f0))).setCell ⟨gb113, 1, none⟩ (.int .i16 (rd x5_1 ((rd_T68 l0_1 x7_1).f1)))).setCell ⟨gb113, 2, none⟩ (.int .i16 (rd x5_1 ((rd_T68 l0_1 x7_1).f2)))).heap[gb113]? = some (.cells #[.int .i8 ((rd_T68 l0_1 x7_1).f0), .int .i16 (rd x5_1 ((rd_T68 l0_1 x7_1).f1)), .int .i16 (rd x5_1 ((rd_T68 l0_1 x7_1).f2))] 68 (0, 0))) := ⟨by (with_reducible repeat (first | refine blk_drewN ?_ _ | refine blk_drew ?_ | refine blk_alloc ?_ _)); refine blk_put (cs := #[.int .i8 ((rd_T68 l0_1 x7_1).f0), .int .i16 (rd x5_1 ((rd_T68 l0_1 x7_1).f1)), .int .i16 ((rd_T68 l0_1 x7_1).f2)]) ?_ 2 _ rfl; (with_reducible repeat (first | refine blk_drewN ?_ _ | refine blk_drew ?_ | refine blk_alloc ?_ _)); refine blk_put (cs := #[.int .i8 ((rd_T68 l0_1 x7_1).f0), .int .i16 ((rd_T68 l0_1 x7_1).f1), .int .i16 ((rd_T68 l0_1 x7_1).f2)]) ?_ 1 _ rfl; (with_reducible repeat (first | refine blk_drewN ?_ _ | refine blk_drew ?_ | refine blk_alloc ?_ _)); refine blk_put (cs := #[.int .i8 ((rd_T68 l0_1 x7_1).f0), .int .i16 ((rd_T68 l0_1 x7_1).f1), .int .i16 ((rd_T68 l0_1 x7_1).f2)]) ?_ 0 _ rfl; (with_reducible repeat (first | refine blk_drewN ?_ _ | refine blk_drew ?_ | refine blk_alloc ?_ _)); exact BK113.out⟩
                                  have n7_ : Aside0 (Below w.heap.size w (((w44.setCell ⟨gb113, 0, none⟩ (.int .i8 ((rd_T68 l0_1 x7_1).f0))).setCell ⟨gb113, 1, none⟩ (.int .i16 (rd x5_1 ((rd_T68 l0_1 x7_1).f1)))).setCell ⟨gb113, 2, none⟩ (.int .i16 (rd x5_1 ((rd_T68 l0_1 x7_1).f2))))) := ⟨by repeat (first | (with_reducible first | exact HB.out | apply below_alloc | apply pw_below_drewN | apply below_drew1 | refine below_set ?_ GE101.out | refine below_set ?_ GE102.out | refine below_set ?_ GE110.out | refine below_set ?_ GE113.out) | exact HB.out)⟩
                                  (try clear HO_4)
                                  (try clear HO_5)
                                  (try clear HO_111001)
                                  (try clear BK101)
                                  (try clear BK102)
                                  (try clear BK110)
                                  (try clear BK113)
                                  (try clear HB)
                                  generalize (((w44.setCell ⟨gb113, 0, none⟩ (.int .i8 ((rd_T68 l0_1 x7_1).f0))).setCell ⟨gb113, 1, none⟩ (.int .i16 (rd x5_1 ((rd_T68 l0_1 x7_1).f1)))).setCell ⟨gb113, 2, none⟩ (.int .i16 (rd x5_1 ((rd_T68 l0_1 x7_1).f2)))) = w49 at n0_ n1_ n2_ n3_ n4_ n5_ n6_ n7_ ⊢
                                  have HO_4 := n0_
                                  have HO_5 := n1_
                                  have HO_111001 := n2_
                                  have BK101 := n3_
                                  have BK102 := n4_
                                  have BK110 := n5_
                                  have BK113 := n6_
                                  have HB := n7_
                                  clear n0_ n1_ n2_ n3_ n4_ n5_ n6_ n7_
                                  have hnb50 := NB110_102.out
                                  have hnc50 := NB102_110.out
                                  have hcz51_0 : w49.cell? ⟨gb110, 0, none⟩ = some (.int .i8 a0_0) := (blk_cell BK110.out 0).trans rfl
                                  have hcz51_1 : w49.cell? ⟨gb110, 1, none⟩ = some (u111001) := (blk_cell BK110.out 1).trans rfl
                                  have hcz51_2 : w49.cell? ⟨gb110, 2, none⟩ = some (.slice none 0 0) := (blk_cell BK110.out 2).trans rfl
                                  have hfz51_0 := blk_frozen BK110.out 0
                                  have hfz51_1 := blk_frozen BK110.out 1
                                  have hfz51_2 := blk_frozen BK110.out 2
                                  obtain ⟨Ao52, co52, eo52⟩ := Kd.R_slice HO_111001.out
                                  subst eo52
                                  have p32 : 0 ≤ (x7_1 : Int) := of_decide_eq_true (by first | (with_reducible assumption) | assumption)
                                  have q32 : (x7_1 : Int) < ((x5_1.length : Int) : Int) := of_decide_eq_true (by first | (with_reducible assumption) | assumption)
                                  obtain ⟨go32, co32, eo32, gb32, gl32, cl32, HG32⟩ := Kd.R_form HO_5.out (by omega)
                                  (first | cases eo32 | (injection eo32 with ea_ en_ ec_; (first | subst ea_ | (injection ea_ with ea_; subst ea_)); subst ec_; clear en_))
                                  have GB32 := Aside0.mk gb32
                                  have GG32 := Aside0.mk HG32
                                  clear gb32 gl32 HG32
                                  (first | simp only [add_plain] at hx115_0 | skip)
                                  (first | simp only [add_plain] at hx116_0 | skip)
                                  obtain ⟨hx32_0, hf32_0⟩ := Kd.R_celln 0 HO_5.out (x7_1 : Int) p32 q32
                                  replace p32 := eq_true p32
                                  replace q32 := eq_true q32
                                  obtain ⟨hy53_, hz53_⟩ := Kd.R_celln 0 HO_5.out (x7_1 : Int) (of_decide_eq_true (by first | (with_reducible assumption) | assumption)) (of_decide_eq_true (by first | (with_reducible assumption) | assumption))
                                  have HP53 := Kd.R_putg HO_5.out (x7_1 : Int) (IntKind.i16.wrap ((x111001_1.length : Int)))
                                  try go_wp2_with (first | ((with_reducible refine gate_store (t := 66) (p := 59) rfl ?_); refine store_event (t := 66) (p := 59) (v := ?vo_w54) (w1 := (w49.setCell ⟨go32, (x7_1 : Int).toNat, none⟩ (.int .i16 (IntKind.i16.wrap ((x111001_1.length : Int)))))) ?hg ?ho ?hn ?hr ?_; (case ho => rfl); (case hg => rfl); (case hn => rfl); (case hr => first | (go_simp; done) | (go_simp; rfl)); intro w54 hw; have hg : w49.grownBy w54 (some go32) := (by rw [hw]; exact HP53.2); have hp_ : Kd.R (Kd.int .i16) 66 w54 w.heap.size (fun _ => True) (.slice (some ⟨go32, 0, none⟩) x5_1.length co45) y117 := (by rw [hw, Ny117.out]; exact HP53.1); clear HP53; have n0_ := Aside0.mk (Kd.R_over' (v := (.slice (some ⟨go32, 0, none⟩) x5_1.length co45)) (by (with_reducible repeat (first | apply Kd.R_alloc | apply Kd.R_drewN | apply Kd.R_drew)); exact HO_4.out) (Kd.R_typed HO_5.out) (by decide) hg); have n1_ := Aside0.mk (hp_); have n2_ := Aside0.mk (Kd.R_over' (v := (.slice (some ⟨go32, 0, none⟩) x5_1.length co45)) (by (with_reducible repeat (first | apply Kd.R_alloc | apply Kd.R_drewN | apply Kd.R_drew)); exact HO_111001.out) (Kd.R_typed HO_5.out) (by decide) hg); have n3_ := Aside0.mk (blk_grown (g := gb101) (o := .cells #[.int .i8 a0_0, .slice (some ad112) l0_1.length c0_1, .slice A0_2 l0_2.length c0_2] 30 (0, 0)) (by (with_reducible repeat (first | refine blk_drewN ?_ _ | refine blk_drew ?_ | refine blk_alloc ?_ _)); exact BK101.out) hg (Kd.R_ne HO_5.out BK101.out (by decide))); have n4_ := Aside0.mk (blk_grown (g := gb102) (o := .cells #[.int .i8 0, .slice none 0 0, .slice none 0 0] 30 (0, 0)) (by (with_reducible repeat (first | refine blk_drewN ?_ _ | refine blk_drew ?_ | refine blk_alloc ?_ _)); exact BK102.out) hg (Kd.R_ne HO_5.out BK102.out (by decide))); have n5_ := Aside0.mk (blk_grown (g := gb110) (o := .cells #[.int .i8 a0_0, .slice Ao52 x111001_1.length co52, .slice none 0 0] 30 (0, 0)) (by (with_reducible repeat (first | refine blk_drewN ?_ _ | refine blk_drew ?_ | refine blk_alloc ?_ _)); exact BK110.out) hg (Kd.R_ne HO_5.out BK110.out (by decide))); have n6_ := Aside0.mk (blk_grown (g := gb113) (o := .cells #[.int .i8 ((rd_T68 l0_1 x7_1).f0), .int .i16 (rd x5_1 ((rd_T68 l0_1 x7_1).f1)), .int .i16 (rd x5_1 ((rd_T68 l0_1 x7_1).f2))] 68 (0, 0)) (by (with_reducible repeat (first | refine blk_drewN ?_ _ | refine blk_drew ?_ | refine blk_alloc ?_ _)); exact BK113.out) hg (Kd.R_ne HO_5.out BK113.out (by decide))); have n7_ := Aside0.mk ((by rw [hw]; exact below_set (HB.out) GB32.out : Below w.heap.size w w54)); clear HO_4; clear HO_5; clear HO_111001; clear BK101; clear BK102; clear BK110; clear BK113; clear HB; have HO_4 := n0_; have HO_5 := n1_; have HO_111001 := n2_; have BK101 := n3_; have BK102 := n4_; have BK110 := n5_; have BK113 := n6_; have HB := n7_; clear n0_ n1_ n2_ n3_ n4_ n5_ n6_ n7_; clear hg hw hp_; have hcz55_0 : w54.cell? ⟨gb110, 0, none⟩ = some (.int .i8 a0_0) := (blk_cell BK110.out 0).trans rfl; have hcz55_1 : w54.cell? ⟨gb110, 1, none⟩ = some (.slice Ao52 x111001_1.length co52) := (blk_cell BK110.out 1).trans rfl; have hcz55_2 : w54.cell? ⟨gb110, 2, none⟩ = some (.slice none 0 0) := (blk_cell BK110.out 2).trans rfl; have hfz55_0 := blk_frozen BK110.out 0; have hfz55_1 := blk_frozen BK110.out 1; have hfz55_2 := blk_frozen BK110.out 2; have hcz56_0 : w54.cell? ⟨gb113, 0, none⟩ = some (.int .i8 ((rd_T68 l0_1 x7_1).f0)) := (blk_cell BK113.out 0).trans rfl; have hcz56_1 : w54.cell? ⟨gb113, 1, none⟩ = some (.int .i16 (rd x5_1 ((rd_T68 l0_1 x7_1).f1))) := (blk_cell BK113.out 1).trans rfl; have hcz56_2 : w54.cell? ⟨gb113, 2, none⟩ = some (.int .i16 (rd x5_1 ((rd_T68 l0_1 x7_1).f2))) := (blk_cell BK113.out 2).trans rfl; have hfz56_0 := blk_frozen BK113.out 0; have hfz56_1 := blk_frozen BK113.out 1; have hfz56_2 := blk_frozen BK113.out 2) | ((with_reducible refine gate_builtin (b := .append) (xs := #[.tmp 61, .tmp 63]) rfl ?_); at_builtin; refine Kd.R_append k68 (w0 := w) w.heap.size rfl (.tmp 61) (.tmp 63) 28 68 (.agg #[(.int .i8 0), (.int .i16 0), (.int .i16 0)]) 6 rfl Try.underlying28 info68 rfl (by decide) (by omega) (.slice Ao52 x111001_1.length co52) x111001_1 (⟨(rd_T68 l0_1 x7_1).f0, rd x5_1 ((rd_T68 l0_1 x7_1).f1), rd x5_1 ((rd_T68 l0_1 x7_1).f2)⟩ : S68) [.int .i8 ((rd_T68 l0_1 x7_1).f0), .int .i16 (rd x5_1 ((rd_T68 l0_1 x7_1).f1)), .int .i16 (rd x5_1 ((rd_T68 l0_1 x7_1).f2))] (fun k_ => k_ ≠ gb113) (fun _ => False) rfl rfl ?aP (fun _ hk => hk.elim) ?aF ?aO ?aB ?aS ?aL ?_; (case aP => exact k68_mkM _ _ _ (⟨(rd_T68 l0_1 x7_1).f0, rd x5_1 ((rd_T68 l0_1 x7_1).f1), rd x5_1 ((rd_T68 l0_1 x7_1).f2)⟩ : S68)); (case aB => exact (by repeat (first | (with_reducible first | exact HB.out | apply below_alloc | apply pw_below_drewN | apply below_drew1 | refine below_set ?_ GE101.out | refine below_set ?_ GE102.out | refine below_set ?_ GE110.out | refine below_set ?_ GE113.out) | exact HB.out))); (case aF => exact (fun k_ hk => Kd.freshB (g := gb113) (o := .cells #[.int .i8 ((rd_T68 l0_1 x7_1).f0), .int .i16 (rd x5_1 ((rd_T68 l0_1 x7_1).f1)), .int .i16 (rd x5_1 ((rd_T68 l0_1 x7_1).f2))] 68 (0, 0)) (by (with_reducible repeat (first | refine blk_drewN ?_ _ | refine blk_drew ?_ | refine blk_alloc ?_ _)); exact BK113.out) k_ hk)); (case aO => exact (by (with_reducible repeat (first | apply Kd.R_alloc | apply Kd.R_drewN | apply Kd.R_drew)); exact HO_111001.out)); (case aS => exact (below_size (by repeat (first | (with_reducible first | exact HB.out | apply below_alloc | apply pw_below_drewN | apply below_drew1 | refine below_set ?_ GE101.out | refine below_set ?_ GE102.out | refine below_set ?_ GE110.out | refine below_set ?_ GE113.out) | exact HB.out)))); (case aL => have := LMc33.out; omega); intro v119 w57 ho hb hg hat; rw [← Ny118.out] at ho; have n0_ := Aside0.mk (Kd.R_over' (by (with_reducible repeat (first | apply Kd.R_alloc | apply Kd.R_drewN | apply Kd.R_drew)); exact HO_4.out) (Kd.R_typed (by (with_reducible repeat (first | apply Kd.R_alloc | apply Kd.R_drewN | apply Kd.R_drew)); exact HO_111001.out)) (by decide) hg); have n1_ := Aside0.mk (Kd.R_over' (by (with_reducible repeat (first | apply Kd.R_alloc | apply Kd.R_drewN | apply Kd.R_drew)); exact HO_5.out) (Kd.R_typed (by (with_reducible repeat (first | apply Kd.R_alloc | apply Kd.R_drewN | apply Kd.R_drew)); exact HO_111001.out)) (by decide) hg); have n2_ := Aside0.mk (blk_grown (g := gb101) (o := .cells #[.int .i8 a0_0, .slice (some ad112) l0_1.length c0_1, .slice A0_2 l0_2.length c0_2] 30 (0, 0)) (by (with_reducible repeat (first | refine blk_drewN ?_ _ | refine blk_drew ?_ | refine blk_alloc ?_ _)); exact BK101.out) hg (Kd.R_ne HO_111001.out BK101.out (by decide))); have n3_ := Aside0.mk (blk_grown (g := gb102) (o := .cells #[.int .i8 0, .slice none 0 0, .slice none 0 0] 30 (0, 0)) (by (with_reducible repeat (first | refine blk_drewN ?_ _ | refine blk_drew ?_ | refine blk_alloc ?_ _)); exact BK102.out) hg (Kd.R_ne HO_111001.out BK102.out (by decide))); have n4_ := Aside0.mk (blk_grown (g := gb110) (o := .cells #[.int .i8 a0_0, .slice Ao52 x111001_1.length co52, .slice none 0 0] 30 (0, 0)) (by (with_reducible repeat (first | refine blk_drewN ?_ _ | refine blk_drew ?_ | refine blk_alloc ?_ _)); exact BK110.out) hg (Kd.R_ne HO_111001.out BK110.out (by decide))); have n5_ := Aside0.mk (blk_grown (g := gb113) (o := .cells #[.int .i8 ((rd_T68 l0_1 x7_1).f0), .int .i16 (rd x5_1 ((rd_T68 l0_1 x7_1).f1)), .int .i16 (rd x5_1 ((rd_T68 l0_1 x7_1).f2))] 68 (0, 0)) (by (with_reducible repeat (first | refine blk_drewN ?_ _ | refine blk_drew ?_ | refine blk_alloc ?_ _)); exact BK113.out) hg (Kd.R_away HO_111001.out (fun _ hk => hk))); have n6_ := Aside0.mk (hb); have n7_ := Aside0.mk (ho); clear HO_4; clear HO_5; clear BK101; clear BK102; clear BK110; clear BK113; clear HB; clear HO_111001; have HO_4 := n0_; have HO_5 := n1_; have BK101 := n2_; have BK102 := n3_; have BK110 := n4_; have BK113 := n5_; have HB := n6_; have HO120 := n7_; clear n0_ n1_ n2_ n3_ n4_ n5_ n6_ n7_; clear ho hb hg hat; obtain ⟨Ao58, co58, eo58⟩ := Kd.R_slice HO120.out; subst eo58; have hcz59_0 : w57.cell? ⟨gb110, 0, none⟩ = some (.int .i8 a0_0) := (blk_cell BK110.out 0).trans rfl; have hcz59_1 : w57.cell? ⟨gb110, 1, none⟩ = some (.slice Ao52 x111001_1.length co52) := (blk_cell BK110.out 1).trans rfl; have hcz59_2 : w57.cell? ⟨gb110, 2, none⟩ = some (.slice none 0 0) := (blk_cell BK110.out 2).trans rfl; have hfz59_0 := blk_frozen BK110.out 0; have hfz59_1 := blk_frozen BK110.out 1; have hfz59_2 := blk_frozen BK110.out 2))
                                  go_roundg k1
                                  case measure => have := HK1.out; omega
                                  case rel => exact ⟨(y117), (wrap64 (x7_1 + 1)), (y118), (.slice Ao58 y118.length co58), (by first | rfl | (simp; done) | (simp [*]; done)), H', ⟨by have := HK1.out; omega⟩, ⟨by (with_reducible repeat (first | apply Kd.R_alloc | apply Kd.R_drewN | apply Kd.R_drew)); exact Kd.R_mono (Kd.R_far (p := ⟨gb110, 1, none⟩) (Kd.R_types HO_4.out BK110.out (by decide)) (fun _ hk => hk.2) (.slice Ao58 y118.length co58)) (fun _ hk => trivial)⟩, ⟨by (with_reducible repeat (first | apply Kd.R_alloc | apply Kd.R_drewN | apply Kd.R_drew)); exact Kd.R_mono (Kd.R_far (p := ⟨gb110, 1, none⟩) (Kd.R_types HO_5.out BK110.out (by decide)) (fun _ hk => hk.2) (.slice Ao58 y118.length co58)) (fun _ hk => trivial)⟩, ⟨by (with_reducible repeat (first | apply Kd.R_alloc | apply Kd.R_drewN | apply Kd.R_drew)); exact Kd.R_mono (Kd.R_far (p := ⟨gb110, 1, none⟩) (Kd.R_types HO120.out BK110.out (by decide)) (fun _ hk => hk.2) (.slice Ao58 y118.length co58)) (fun _ hk => trivial)⟩, ⟨by (with_reducible repeat (first | refine blk_drewN ?_ _ | refine blk_drew ?_ | refine blk_alloc ?_ _)); refine blk_far ?_ NB101_110.out _; (with_reducible repeat (first | refine blk_drewN ?_ _ | refine blk_drew ?_ | refine blk_alloc ?_ _)); exact BK101.out⟩, ⟨by (with_reducible repeat (first | refine blk_drewN ?_ _ | refine blk_drew ?_ | refine blk_alloc ?_ _)); refine blk_far ?_ NB102_110.out _; (with_reducible repeat (first | refine blk_drewN ?_ _ | refine blk_drew ?_ | refine blk_alloc ?_ _)); exact BK102.out⟩, ⟨by (with_reducible repeat (first | refine blk_drewN ?_ _ | refine blk_drew ?_ | refine blk_alloc ?_ _)); refine blk_put (cs := #[.int .i8 a0_0, .slice Ao52 x111001_1.length co52, .slice none 0 0]) ?_ 1 _ rfl; (with_reducible repeat (first | refine blk_drewN ?_ _ | refine blk_drew ?_ | refine blk_alloc ?_ _)); exact BK110.out⟩, ⟨by repeat (first | (with_reducible first | exact HB.out | apply below_alloc | apply pw_below_drewN | apply below_drew1 | refine below_set ?_ GE101.out | refine below_set ?_ GE102.out | refine below_set ?_ GE110.out | refine below_set ?_ GE113.out) | exact HB.out)⟩⟩
                                · rw [if_neg c33] at H
                                  exact absurd H (by simp)
                              · rw [if_neg c31] at H
                                exact absurd H (by simp)
                            · rw [if_neg c30] at H
                              exact absurd H (by simp)
                          · rw [if_neg c29] at H
                            exact absurd H (by simp)
                        · rw [if_neg c28] at H
                          exact absurd H (by simp)
                      · rw [if_neg c27] at H
                        exact absurd H (by simp)
                    · replace c26 := Bool.eq_false_iff.mpr c26
                      subst c26
                      have H1 : (if x7_1 < (x5_1.length : Int) then (if x111001_1.length < 23456248059221 then (spec_TrimCircuit.l0 k1 t104 (x5_1.set (x7_1 : Int).toNat (IntKind.i16.wrap ((x111001_1.length : Int)))) (wrap64 (x7_1 + 1)) a0_0 l0_1 l0_2 a0_0 (x111001_1 ++ [(⟨(rd_T68 l0_1 x7_1).f0, (rd_T68 l0_1 x7_1).f1, (rd_T68 l0_1 x7_1).f2⟩ : S68)])) else (none)) else (none)) = some (r1, r2, r3, r4) := by rw [if_neg (show ¬ (false = true) by decide)] at H; exact H
                      clear H
                      have H := H1
                      clear H1
                      by_cases c60 : x7_1 < (x5_1.length : Int)
                      · rw [if_pos c60] at H
                        have c60b0 : decide (x7_1 < (x5_1.length : Int)) = true := decide_eq_true c60
                        clear c60
                        obtain ⟨y121, hy121⟩ : ∃ y_ : List Int, y_ = (x5_1.set (x7_1 : Int).toNat (IntKind.i16.wrap ((x111001_1.length : Int)))) := ⟨_, rfl⟩
                        replace H : (if x111001_1.length < 23456248059221 then (spec_TrimCircuit.l0 k1 t104 y121 (wrap64 (x7_1 + 1)) a0_0 l0_1 l0_2 a0_0 (x111001_1 ++ [(⟨(rd_T68 l0_1 x7_1).f0, (rd_T68 l0_1 x7_1).f1, (rd_T68 l0_1 x7_1).f2⟩ : S68)])) else (none)) = some (r1, r2, r3, r4) := by first | (rw [hy121]; with_reducible exact H) | (have H2_ := (Option.bind_some _ _).symm.trans H; rw [hy121]; with_reducible exact H2_) | (have H2_ := (Option.bind_some _ _).symm.trans H; with_reducible exact H2_) | with_reducible exact H | (rw [hy121]; exact H) | exact H
                        have Ny121 := Aside0.mk hy121
                        clear hy121
                        by_cases c62 : x111001_1.length < 23456248059221
                        · rw [if_pos c62] at H
                          have LMc62 := Aside0.mk c62
                          clear c62
                          obtain ⟨y122, hy122⟩ : ∃ y_ : List (S68), y_ = (x111001_1 ++ [(⟨(rd_T68 l0_1 x7_1).f0, (rd_T68 l0_1 x7_1).f1, (rd_T68 l0_1 x7_1).f2⟩ : S68)]) := ⟨_, rfl⟩
                          replace H : (spec_TrimCircuit.l0 k1 t104 y121 (wrap64 (x7_1 + 1)) a0_0 l0_1 l0_2 a0_0 y122) = some (r1, r2, r3, r4) := by first | (rw [hy122]; with_reducible exact H) | (have H2_ := (Option.bind_some _ _).symm.trans H; rw [hy122]; with_reducible exact H2_) | (have H2_ := (Option.bind_some _ _).symm.trans H; with_reducible exact H2_) | with_reducible exact H | (rw [hy122]; exact H) | exact H
                          have Ny122 := Aside0.mk hy122
                          clear hy122
                          have H' := Aside0.mk H
                          clear H
                          have hnb63 := NB101_102.out
                          have hnc63 := NB102_101.out
                          have hnb64 := NB101_110.out
                          have hnc64 := NB110_101.out
                          have hcz65_0 : wr.cell? ⟨gb101, 0, none⟩ = some (.int .i8 a0_0) := (blk_cell BK101.out 0).trans rfl
                          have hcz65_1 : wr.cell? ⟨gb101, 1, none⟩ = some (.slice A0_1 l0_1.length c0_1) := (blk_cell BK101.out 1).trans rfl
                          have hcz65_2 : wr.cell? ⟨gb101, 2, none⟩ = some (.slice A0_2 l0_2.length c0_2) := (blk_cell BK101.out 2).trans rfl
                          have hfz65_0 := blk_frozen BK101.out 0
                          have hfz65_1 := blk_frozen BK101.out 1
                          have hfz65_2 := blk_frozen BK101.out 2
                          obtain ⟨Ao66, co66, eo66⟩ := Kd.R_slice HO_4.out
                          subst eo66
                          have p111 : 0 ≤ (x7_1 : Int) := of_decide_eq_true (by first | (with_reducible assumption) | assumption)
                          have q111 : x7_1 < (t104.length : Int) := of_decide_eq_true (by first | (with_reducible assumption) | assumption)
                          obtain ⟨ad111, e111, hx111_0⟩ := Kd.at_bool (Kd.R_reads' HO_4.out).2.2 x7_1 p111 q111
                          (try rw [← Nbq23.out] at hx111_0)
                          cases e111
                          replace p111 := eq_true p111
                          replace q111 := eq_true q111
                          have p112 : 0 ≤ (x7_1 : Int) := of_decide_eq_true (by first | (with_reducible assumption) | assumption)
                          have q112 : x7_1 < (l0_1.length : Int) := of_decide_eq_true (by first | (with_reducible assumption) | assumption)
                          obtain ⟨ad112, e112, hx112_0, hx112_1, hx112_2⟩ := at_T68 HR0_1.out x7_1 p112 q112
                          cases e112
                          replace hx112_0 := (HB.out.cell (World.block_lt_of_cell? w _ hx112_0)).trans hx112_0
                          replace hx112_1 := (HB.out.cell (World.block_lt_of_cell? w _ hx112_1)).trans hx112_1
                          replace hx112_2 := (HB.out.cell (World.block_lt_of_cell? w _ hx112_2)).trans hx112_2
                          replace p112 := eq_true p112
                          replace q112 := eq_true q112
                          go_wp2_with (first | ((with_reducible refine gate_dst (N := 8) rfl ?_); refine box_event ?hg (N := 8) ?hd (cs := #[.int .i8 0, .int .i16 0, .int .i16 0]) (t := 68) ?hr ?_; (case hd => rfl); (case hg => rfl); (case hr => first | (go_simp; done) | (go_simp; rfl)); intro gb113 hg w67 hbox hb; have n0_ := Aside0.mk (Kd.R_below (by (with_reducible repeat (first | apply Kd.R_alloc | apply Kd.R_drewN | apply Kd.R_drew)); exact HO_4.out) hb); have n1_ := Aside0.mk (Kd.R_below (by (with_reducible repeat (first | apply Kd.R_alloc | apply Kd.R_drewN | apply Kd.R_drew)); exact HO_5.out) hb); have n2_ := Aside0.mk (Kd.R_below (Kd.R_elderB (by (with_reducible repeat (first | apply Kd.R_alloc | apply Kd.R_drewN | apply Kd.R_drew)); exact HO_111001.out) gb113 (Nat.le_of_eq hg.symm)) hb); have n3_ := Aside0.mk (blk_below (g := gb101) (o := .cells #[.int .i8 a0_0, .slice (some ad112) l0_1.length c0_1, .slice A0_2 l0_2.length c0_2] 30 (0, 0)) (by (with_reducible repeat (first | refine blk_drewN ?_ _ | refine blk_drew ?_ | refine blk_alloc ?_ _)); exact BK101.out) hb); have n4_ := Aside0.mk (blk_below (g := gb102) (o := .cells #[.int .i8 0, .slice none 0 0, .slice none 0 0] 30 (0, 0)) (by (with_reducible repeat (first | refine blk_drewN ?_ _ | refine blk_drew ?_ | refine blk_alloc ?_ _)); exact BK102.out) hb); have n5_ := Aside0.mk (blk_below (g := gb110) (o := .cells #[.int .i8 a0_0, u111001, .slice none 0 0] 30 (0, 0)) (by (with_reducible repeat (first | refine blk_drewN ?_ _ | refine blk_drew ?_ | refine blk_alloc ?_ _)); exact BK110.out) hb); have n6_ := Aside0.mk (below_step (by repeat (first | (with_reducible first | exact HB.out | apply below_alloc | apply pw_below_drewN | apply below_drew1 | refine below_set ?_ GE101.out | refine below_set ?_ GE102.out | refine below_set ?_ GE110.out) | exact HB.out)) hb); have n7_ := Aside0.mk (hbox); have n8_ := Aside0.mk ((by rw [hg]; exact (below_size (by repeat (first | (with_reducible first | exact HB.out | apply below_alloc | apply pw_below_drewN | apply below_drew1 | refine below_set ?_ GE101.out | refine below_set ?_ GE102.out | refine below_set ?_ GE110.out) | exact HB.out))) : w.heap.size ≤ gb113)); have n9_ := Aside0.mk ((by rw [hg]; exact (below_size (by repeat (first | (with_reducible first | exact HB.out | apply below_alloc | apply pw_below_drewN | apply below_drew1 | refine below_set ?_ GE101.out | refine below_set ?_ GE102.out | refine below_set ?_ GE110.out) | exact HB.out))) : w.heap.size ≤ gb113)); have n10_ := Aside0.mk ((by rw [hg]; exact Nat.ne_of_lt (blk_lt (g := gb101) (o := .cells #[.int .i8 a0_0, .slice (some ad112) l0_1.length c0_1, .slice A0_2 l0_2.length c0_2] 30 (0, 0)) (by (with_reducible repeat (first | refine blk_drewN ?_ _ | refine blk_drew ?_ | refine blk_alloc ?_ _)); exact BK101.out)) : gb101 ≠ gb113)); have n11_ := Aside0.mk ((by rw [hg]; exact Nat.ne_of_gt (blk_lt (g := gb101) (o := .cells #[.int .i8 a0_0, .slice (some ad112) l0_1.length c0_1, .slice A0_2 l0_2.length c0_2] 30 (0, 0)) (by (with_reducible repeat (first | refine blk_drewN ?_ _ | refine blk_drew ?_ | refine blk_alloc ?_ _)); exact BK101.out)) : gb113 ≠ gb101)); have n12_ := Aside0.mk ((by rw [hg]; exact Nat.ne_of_lt (blk_lt (g := gb102) (o := .cells #[.int .i8 0, .slice none 0 0, .slice none 0 0] 30 (0, 0)) (by (with_reducible repeat (first | refine blk_drewN ?_ _ | refine blk_drew ?_ | refine blk_alloc ?_ _)); exact BK102.out)) : gb102 ≠ gb113)); have n13_ := Aside0.mk ((by rw [hg]; exact Nat.ne_of_gt (blk_lt (g := gb102) (o := .cells #[.int .i8 0, .slice none 0 0, .slice none 0 0] 30 (0, 0)) (by (with_reducible repeat (first | refine blk_drewN ?_ _ | refine blk_drew ?_ | refine blk_alloc ?_ _)); exact BK102.out)) : gb113 ≠ gb102)); have n14_ := Aside0.mk ((by rw [hg]; exact Nat.ne_of_lt (blk_lt (g := gb110) (o := .cells #[.int .i8 a0_0, u111001, .slice none 0 0] 30 (0, 0)) (by (with_reducible repeat (first | refine blk_drewN ?_ _ | refine blk_drew ?_ | refine blk_alloc ?_ _)); exact BK110.out)) : gb110 ≠ gb113)); have n15_ := Aside0.mk ((by rw [hg]; exact Nat.ne_of_gt (blk_lt (g := gb110) (o := .cells #[.int .i8 a0_0, u111001, .slice none 0 0] 30 (0, 0)) (by (with_reducible repeat (first | refine blk_drewN ?_ _ | refine blk_drew ?_ | refine blk_alloc ?_ _)); exact BK110.out)) : gb113 ≠ gb110)); clear HO_4; clear HO_5; clear HO_111001; clear BK101; clear BK102; clear BK110; clear HB; have HO_4 := n0_; have HO_5 := n1_; have HO_111001 := n2_; have BK101 := n3_; have BK102 := n4_; have BK110 := n5_; have HB := n6_; have BK113 := n7_; have GW113 := n8_; have GE113 := n9_; have NB101_113 := n10_; have NB113_101 := n11_; have NB102_113 := n12_; have NB113_102 := n13_; have NB110_113 := n14_; have NB113_110 := n15_; clear n0_ n1_ n2_ n3_ n4_ n5_ n6_ n7_ n8_ n9_ n10_ n11_ n12_ n13_ n14_ n15_; clear hb hbox hg; have hnb68 := NB113_101.out; have hnc68 := NB101_113.out; have hnb69 := NB113_102.out; have hnc69 := NB102_113.out; have hnb70 := NB113_110.out; have hnc70 := NB110_113.out; have hcz71_0 : w67.cell? ⟨gb113, 0, none⟩ = some (.int .i8 0) := (blk_cell BK113.out 0).trans rfl; have hcz71_1 : w67.cell? ⟨gb113, 1, none⟩ = some (.int .i16 0) := (blk_cell BK113.out 1).trans rfl; have hcz71_2 : w67.cell? ⟨gb113, 2, none⟩ = some (.int .i16 0) := (blk_cell BK113.out 2).trans rfl; have hfz71_0 := blk_frozen BK113.out 0; have hfz71_1 := blk_frozen BK113.out 1; have hfz71_2 := blk_frozen BK113.out 2) | ((with_reducible refine gate_callee (f := 45) rfl ?_); refine goesL_ (some 39) rfl rfl Try.func45 (by kernel_rfl) rfl #[.agg #[.int .i8 ((rd_T68 l0_1 x7_1).f0), .int .i16 ((rd_T68 l0_1 x7_1).f1), .int .i16 ((rd_T68 l0_1 x7_1).f2)]] rfl (by (try simp only [List.map_toArray, List.map_cons, List.map_nil]); first | done | rfl | (simp only [List.length_drop, List.length_take]; rfl)) ?_; (with_reducible refine (spec_l07Joins.calls ((rd_T68 l0_1 x7_1).f0) ((rd_T68 l0_1 x7_1).f1) ((rd_T68 l0_1 x7_1).f2) false _ A25.out).mono ?_); rintro e w72 ⟨rfl, hb⟩; refine ⟨_, rfl, ?_⟩; have n0_ := Aside0.mk (Kd.R_below (by (with_reducible repeat (first | apply Kd.R_alloc | apply Kd.R_drewN | apply Kd.R_drew)); exact (Kd.R_mono (Kd.R_far (p := ⟨gb113, 2, none⟩) (Kd.R_far (p := ⟨gb113, 1, none⟩) (Kd.R_far (p := ⟨gb113, 0, none⟩) (Kd.R_types HO_4.out BK113.out (by decide)) (fun _ hk => hk.2) (.int .i8 ((rd_T68 l0_1 x7_1).f0))) (fun _ hk => hk.2) (.int .i16 ((rd_T68 l0_1 x7_1).f1))) (fun _ hk => hk.2) (.int .i16 ((rd_T68 l0_1 x7_1).f2))) (fun _ h_ => h_.1))) hb); have n1_ := Aside0.mk (Kd.R_below (by (with_reducible repeat (first | apply Kd.R_alloc | apply Kd.R_drewN | apply Kd.R_drew)); exact (Kd.R_mono (Kd.R_far (p := ⟨gb113, 2, none⟩) (Kd.R_far (p := ⟨gb113, 1, none⟩) (Kd.R_far (p := ⟨gb113, 0, none⟩) (Kd.R_types HO_5.out BK113.out (by decide)) (fun _ hk => hk.2) (.int .i8 ((rd_T68 l0_1 x7_1).f0))) (fun _ hk => hk.2) (.int .i16 ((rd_T68 l0_1 x7_1).f1))) (fun _ hk => hk.2) (.int .i16 ((rd_T68 l0_1 x7_1).f2))) (fun _ h_ => h_.1))) hb); have n2_ := Aside0.mk (Kd.R_below (by (with_reducible repeat (first | apply Kd.R_alloc | apply Kd.R_drewN | apply Kd.R_drew)); exact (Kd.R_mono (Kd.R_far (p := ⟨gb113, 2, none⟩) (Kd.R_far (p := ⟨gb113, 1, none⟩) (Kd.R_far (p := ⟨gb113, 0, none⟩) (Kd.R_mono HO_111001.out (fun k_ hk => (⟨hk, hk.2⟩ : _ ∧ k_ ≠ gb113))) (fun _ hk => hk.2) (.int .i8 ((rd_T68 l0_1 x7_1).f0))) (fun _ hk => hk.2) (.int .i16 ((rd_T68 l0_1 x7_1).f1))) (fun _ hk => hk.2) (.int .i16 ((rd_T68 l0_1 x7_1).f2))) (fun _ h_ => h_.1))) hb); have n3_ := Aside0.mk (blk_below (g := gb101) (o := .cells #[.int .i8 a0_0, .slice (some ad112) l0_1.length c0_1, .slice A0_2 l0_2.length c0_2] 30 (0, 0)) (by (with_reducible repeat (first | refine blk_drewN ?_ _ | refine blk_drew ?_ | refine blk_alloc ?_ _)); refine blk_far ?_ NB101_113.out _; (with_reducible repeat (first | refine blk_drewN ?_ _ | refine blk_drew ?_ | refine blk_alloc ?_ _)); refine blk_far ?_ NB101_113.out _; (with_reducible repeat (first | refine blk_drewN ?_ _ | refine blk_drew ?_ | refine blk_alloc ?_ _)); refine blk_far ?_ NB101_113.out _; (with_reducible repeat (first | refine blk_drewN ?_ _ | refine blk_drew ?_ | refine blk_alloc ?_ _)); exact BK101.out) hb); have n4_ := Aside0.mk (blk_below (g := gb102) (o := .cells #[.int .i8 0, .slice none 0 0, .slice none 0 0] 30 (0, 0)) (by (with_reducible repeat (first | refine blk_drewN ?_ _ | refine blk_drew ?_ | refine blk_alloc ?_ _)); refine blk_far ?_ NB102_113.out _; (with_reducible repeat (first | refine blk_drewN ?_ _ | refine blk_drew ?_ | refine blk_alloc ?_ _)); refine blk_far ?_ NB102_113.out _; (with_reducible repeat (first | refine blk_drewN ?_ _ | refine blk_drew ?_ | refine blk_alloc ?_ _)); refine blk_far ?_ NB102_113.out _; (with_reducible repeat (first | refine blk_drewN ?_ _ | refine blk_drew ?_ | refine blk_alloc ?_ _)); exact BK102.out) hb); have n5_ := Aside0.mk (blk_below (g := gb110) (o := .cells #[.int .i8 a0_0, u111001, .slice none 0 0] 30 (0, 0)) (by (with_reducible repeat (first | refine blk_drewN ?_ _ | refine blk_drew ?_ | refine blk_alloc ?_ _)); refine blk_far ?_ NB110_113.out _; (with_reducible repeat (first | refine blk_drewN ?_ _ | refine blk_drew ?_ | refine blk_alloc ?_ _)); refine blk_far ?_ NB110_113.out _; (with_reducible repeat (first | refine blk_drewN ?_ _ | refine blk_drew ?_ | refine blk_alloc ?_ _)); refine blk_far ?_ NB110_113.out _; (with_reducible repeat (first | refine blk_drewN ?_ _ | refine blk_drew ?_ | refine blk_alloc ?_ _)); exact BK110.out) hb); have n6_ := Aside0.mk (blk_below (g := gb113) (o := .cells #[.int .i8 ((rd_T68 l0_1 x7_1).f0), .int .i16 ((rd_T68 l0_1 x7_1).f1), .int .i16 ((rd_T68 l0_1 x7_1).f2)] 68 (0, 0)) (by (with_reducible repeat (first | refine blk_drewN ?_ _ | refine blk_drew ?_ | refine blk_alloc ?_ _)); refine blk_put (cs := #[.int .i8 ((rd_T68 l0_1 x7_1).f0), .int .i16 ((rd_T68 l0_1 x7_1).f1), .int .i16 0]) ?_ 2 _ rfl; (with_reducible repeat (first | refine blk_drewN ?_ _ | refine blk_drew ?_ | refine blk_alloc ?_ _)); refine blk_put (cs := #[.int .i8 ((rd_T68 l0_1 x7_1).f0), .int .i16 0, .int .i16 0]) ?_ 1 _ rfl; (with_reducible repeat (first | refine blk_drewN ?_ _ | refine blk_drew ?_ | refine blk_alloc ?_ _)); refine blk_put (cs := #[.int .i8 0, .int .i16 0, .int .i16 0]) ?_ 0 _ rfl; (with_reducible repeat (first | refine blk_drewN ?_ _ | refine blk_drew ?_ | refine blk_alloc ?_ _)); exact BK113.out) hb); have n7_ := Aside0.mk (below_step (by repeat (first | (with_reducible first | exact HB.out | apply below_alloc | apply pw_below_drewN | apply below_drew1 | refine below_set ?_ GE101.out | refine below_set ?_ GE102.out | refine below_set ?_ GE110.out | refine below_set ?_ GE113.out) | exact HB.out)) hb); clear HO_4; clear HO_5; clear HO_111001; clear BK101; clear BK102; clear BK110; clear BK113; clear HB; have HO_4 := n0_; have HO_5 := n1_; have HO_111001 := n2_; have BK101 := n3_; have BK102 := n4_; have BK110 := n5_; have BK113 := n6_; have HB := n7_; clear n0_ n1_ n2_ n3_ n4_ n5_ n6_ n7_; (try clear hb); (try clear hb2); (try clear hk); (try clear hi); have hnb73 := NB110_102.out; have hnc73 := NB102_110.out; have hcz74_0 : w72.cell? ⟨gb110, 0, none⟩ = some (.int .i8 a0_0) := (blk_cell BK110.out 0).trans rfl; have hcz74_1 : w72.cell? ⟨gb110, 1, none⟩ = some (u111001) := (blk_cell BK110.out 1).trans rfl; have hcz74_2 : w72.cell? ⟨gb110, 2, none⟩ = some (.slice none 0 0) := (blk_cell BK110.out 2).trans rfl; have hfz74_0 := blk_frozen BK110.out 0; have hfz74_1 := blk_frozen BK110.out 1; have hfz74_2 := blk_frozen BK110.out 2; obtain ⟨Ao75, co75, eo75⟩ := Kd.R_slice HO_111001.out; subst eo75; have p61 : 0 ≤ (x7_1 : Int) := of_decide_eq_true (by first | (with_reducible assumption) | assumption); have q61 : (x7_1 : Int) < ((x5_1.length : Int) : Int) := of_decide_eq_true (by first | (with_reducible assumption) | assumption); obtain ⟨go61, co61, eo61, gb61, gl61, cl61, HG61⟩ := Kd.R_form HO_5.out (by omega); (first | cases eo61 | (injection eo61 with ea_ en_ ec_; (first | subst ea_ | (injection ea_ with ea_; subst ea_)); subst ec_; clear en_)); have GB61 := Aside0.mk gb61; have GG61 := Aside0.mk HG61; clear gb61 gl61 HG61; obtain ⟨hx61_0, hf61_0⟩ := Kd.R_celln 0 HO_5.out (x7_1 : Int) p61 q61; replace p61 := eq_true p61; replace q61 := eq_true q61; obtain ⟨hy76_, hz76_⟩ := Kd.R_celln 0 HO_5.out (x7_1 : Int) (of_decide_eq_true (by first | (with_reducible assumption) | assumption)) (of_decide_eq_true (by first | (with_reducible assumption) | assumption)); have HP76 := Kd.R_putg HO_5.out (x7_1 : Int) (IntKind.i16.wrap ((x111001_1.length : Int)))) | ((with_reducible refine gate_store (t := 66) (p := 59) rfl ?_); refine store_event (t := 66) (p := 59) (v := ?vo_w77) (w1 := (w72.setCell ⟨go61, (x7_1 : Int).toNat, none⟩ (.int .i16 (IntKind.i16.wrap ((x111001_1.length : Int)))))) ?hg ?ho ?hn ?hr ?_; (case ho => rfl); (case hg => rfl); (case hn => rfl); (case hr => first | (go_simp; done) | (go_simp; rfl)); intro w77 hw; have hg : w72.grownBy w77 (some go61) := (by rw [hw]; exact HP76.2); have hp_ : Kd.R (Kd.int .i16) 66 w77 w.heap.size (fun _ => True) (.slice (some ⟨go61, 0, none⟩) x5_1.length co61) y121 := (by rw [hw, Ny121.out]; exact HP76.1); clear HP76; have n0_ := Aside0.mk (Kd.R_over' (v := (.slice (some ⟨go61, 0, none⟩) x5_1.length co61)) (by (with_reducible repeat (first | apply Kd.R_alloc | apply Kd.R_drewN | apply Kd.R_drew)); exact HO_4.out) (Kd.R_typed HO_5.out) (by decide) hg); have n1_ := Aside0.mk (hp_); have n2_ := Aside0.mk (Kd.R_over' (v := (.slice (some ⟨go61, 0, none⟩) x5_1.length co61)) (by (with_reducible repeat (first | apply Kd.R_alloc | apply Kd.R_drewN | apply Kd.R_drew)); exact HO_111001.out) (Kd.R_typed HO_5.out) (by decide) hg); have n3_ := Aside0.mk (blk_grown (g := gb101) (o := .cells #[.int .i8 a0_0, .slice (some ad112) l0_1.length c0_1, .slice A0_2 l0_2.length c0_2] 30 (0, 0)) (by (with_reducible repeat (first | refine blk_drewN ?_ _ | refine blk_drew ?_ | refine blk_alloc ?_ _)); exact BK101.out) hg (Kd.R_ne HO_5.out BK101.out (by decide))); have n4_ := Aside0.mk (blk_grown (g := gb102) (o := .cells #[.int .i8 0, .slice none 0 0, .slice none 0 0] 30 (0, 0)) (by (with_reducible repeat (first | refine blk_drewN ?_ _ | refine blk_drew ?_ | refine blk_alloc ?_ _)); exact BK102.out) hg (Kd.R_ne HO_5.out BK102.out (by decide))); have n5_ := Aside0.mk (blk_grown (g := gb110) (o := .cells #[.int .i8 a0_0, .slice Ao75 x111001_1.length co75, .slice none 0 0] 30 (0, 0)) (by (with_reducible repeat (first | refine blk_drewN ?_ _ | refine blk_drew ?_ | refine blk_alloc ?_ _)); exact BK110.out) hg (Kd.R_ne HO_5.out BK110.out (by decide))); have n6_ := Aside0.mk (blk_grown (g := gb113) (o := .cells #[.int .i8 ((rd_T68 l0_1 x7_1).f0), .int .i16 ((rd_T68 l0_1 x7_1).f1), .int .i16 ((rd_T68 l0_1 x7_1).f2)] 68 (0, 0)) (by (with_reducible repeat (first | refine blk_drewN ?_ _ | refine blk_drew ?_ | refine blk_alloc ?_ _)); exact BK113.out) hg (Kd.R_ne HO_5.out BK113.out (by decide))); have n7_ := Aside0.mk ((by rw [hw]; exact below_set (HB.out) GB61.out : Below w.heap.size w w77)); clear HO_4; clear HO_5; clear HO_111001; clear BK101; clear BK102; clear BK110; clear BK113; clear HB; have HO_4 := n0_; have HO_5 := n1_; have HO_111001 := n2_; have BK101 := n3_; have BK102 := n4_; have BK110 := n5_; have BK113 := n6_; have HB := n7_; clear n0_ n1_ n2_ n3_ n4_ n5_ n6_ n7_; clear hg hw hp_; have hcz78_0 : w77.cell? ⟨gb110, 0, none⟩ = some (.int .i8 a0_0) := (blk_cell BK110.out 0).trans rfl; have hcz78_1 : w77.cell? ⟨gb110, 1, none⟩ = some (.slice Ao75 x111001_1.length co75) := (blk_cell BK110.out 1).trans rfl; have hcz78_2 : w77.cell? ⟨gb110, 2, none⟩ = some (.slice none 0 0) := (blk_cell BK110.out 2).trans rfl; have hfz78_0 := blk_frozen BK110.out 0; have hfz78_1 := blk_frozen BK110.out 1; have hfz78_2 := blk_frozen BK110.out 2; have hcz79_0 : w77.cell? ⟨gb113, 0, none⟩ = some (.int .i8 ((rd_T68 l0_1 x7_1).f0)) := (blk_cell BK113.out 0).trans rfl; have hcz79_1 : w77.cell? ⟨gb113, 1, none⟩ = some (.int .i16 ((rd_T68 l0_1 x7_1).f1)) := (blk_cell BK113.out 1).trans rfl; have hcz79_2 : w77.cell? ⟨gb113, 2, none⟩ = some (.int .i16 ((rd_T68 l0_1 x7_1).f2)) := (blk_cell BK113.out 2).trans rfl; have hfz79_0 := blk_frozen BK113.out 0; have hfz79_1 := blk_frozen BK113.out 1; have hfz79_2 := blk_frozen BK113.out 2) | ((with_reducible refine gate_builtin (b := .append) (xs := #[.tmp 61, .tmp 63]) rfl ?_); at_builtin; refine Kd.R_append k68 (w0 := w) w.heap.size rfl (.tmp 61) (.tmp 63) 28 68 (.agg #[(.int .i8 0), (.int .i16 0), (.int .i16 0)]) 6 rfl Try.underlying28 info68 rfl (by decide) (by omega) (.slice Ao75 x111001_1.length co75) x111001_1 (⟨(rd_T68 l0_1 x7_1).f0, (rd_T68 l0_1 x7_1).f1, (rd_T68 l0_1 x7_1).f2⟩ : S68) [.int .i8 ((rd_T68 l0_1 x7_1).f0), .int .i16 ((rd_T68 l0_1 x7_1).f1), .int .i16 ((rd_T68 l0_1 x7_1).f2)] (fun k_ => k_ ≠ gb113) (fun _ => False) rfl rfl ?aP (fun _ hk => hk.elim) ?aF ?aO ?aB ?aS ?aL ?_; (case aP => exact k68_mkM _ _ _ (⟨(rd_T68 l0_1 x7_1).f0, (rd_T68 l0_1 x7_1).f1, (rd_T68 l0_1 x7_1).f2⟩ : S68)); (case aB => exact (by repeat (first | (with_reducible first | exact HB.out | apply below_alloc | apply pw_below_drewN | apply below_drew1 | refine below_set ?_ GE101.out | refine below_set ?_ GE102.out | refine below_set ?_ GE110.out | refine below_set ?_ GE113.out) | exact HB.out))); (case aF => exact (fun k_ hk => Kd.freshB (g := gb113) (o := .cells #[.int .i8 ((rd_T68 l0_1 x7_1).f0), .int .i16 ((rd_T68 l0_1 x7_1).f1), .int .i16 ((rd_T68 l0_1 x7_1).f2)] 68 (0, 0)) (by (with_reducible repeat (first | refine blk_drewN ?_ _ | refine blk_drew ?_ | refine blk_alloc ?_ _)); exact BK113.out) k_ hk)); (case aO => exact (by (with_reducible repeat (first | apply Kd.R_alloc | apply Kd.R_drewN | apply Kd.R_drew)); exact Kd.R_mono HO_111001.out (fun _ hk => hk.2))); (case aS => exact (below_size (by repeat (first | (with_reducible first | exact HB.out | apply below_alloc | apply pw_below_drewN | apply below_drew1 | refine below_set ?_ GE101.out | refine below_set ?_ GE102.out | refine below_set ?_ GE110.out | refine below_set ?_ GE113.out) | exact HB.out)))); (case aL => have := LMc62.out; omega); intro v123 w80 ho hb hg hat; rw [← Ny122.out] at ho; have n0_ := Aside0.mk (Kd.R_over' (by (with_reducible repeat (first | apply Kd.R_alloc | apply Kd.R_drewN | apply Kd.R_drew)); exact HO_4.out) (Kd.R_typed (by (with_reducible repeat (first | apply Kd.R_alloc | apply Kd.R_drewN | apply Kd.R_drew)); exact HO_111001.out)) (by decide) hg); have n1_ := Aside0.mk (Kd.R_over' (by (with_reducible repeat (first | apply Kd.R_alloc | apply Kd.R_drewN | apply Kd.R_drew)); exact HO_5.out) (Kd.R_typed (by (with_reducible repeat (first | apply Kd.R_alloc | apply Kd.R_drewN | apply Kd.R_drew)); exact HO_111001.out)) (by decide) hg); have n2_ := Aside0.mk (blk_grown (g := gb101) (o := .cells #[.int .i8 a0_0, .slice (some ad112) l0_1.length c0_1, .slice A0_2 l0_2.length c0_2] 30 (0, 0)) (by (with_reducible repeat (first | refine blk_drewN ?_ _ | refine blk_drew ?_ | refine blk_alloc ?_ _)); exact BK101.out) hg (Kd.R_ne HO_111001.out BK101.out (by decide))); have n3_ := Aside0.mk (blk_grown (g := gb102) (o := .cells #[.int .i8 0, .slice none 0 0, .slice none 0 0] 30 (0, 0)) (by (with_reducible repeat (first | refine blk_drewN ?_ _ | refine blk_drew ?_ | refine blk_alloc ?_ _)); exact BK102.out) hg (Kd.R_ne HO_111001.out BK102.out (by decide))); have n4_ := Aside0.mk (blk_grown (g := gb110) (o := .cells #[.int .i8 a0_0, .slice Ao75 x111001_1.length co75, .slice none 0 0] 30 (0, 0)) (by (with_reducible repeat (first | refine blk_drewN ?_ _ | refine blk_drew ?_ | refine blk_alloc ?_ _)); exact BK110.out) hg (Kd.R_ne HO_111001.out BK110.out (by decide))); have n5_ := Aside0.mk (blk_grown (g := gb113) (o := .cells #[.int .i8 ((rd_T68 l0_1 x7_1).f0), .int .i16 ((rd_T68 l0_1 x7_1).f1), .int .i16 ((rd_T68 l0_1 x7_1).f2)] 68 (0, 0)) (by (with_reducible repeat (first | refine blk_drewN ?_ _ | refine blk_drew ?_ | refine blk_alloc ?_ _)); exact BK113.out) hg (Kd.R_away HO_111001.out (fun _ hk => hk.2))); have n6_ := Aside0.mk (hb); have n7_ := Aside0.mk (ho); clear HO_4; clear HO_5; clear BK101; clear BK102; clear BK110; clear BK113; clear HB; clear HO_111001; have HO_4 := n0_; have HO_5 := n1_; have BK101 := n2_; have BK102 := n3_; have BK110 := n4_; have BK113 := n5_; have HB := n6_; have HO124 := n7_; clear n0_ n1_ n2_ n3_ n4_ n5_ n6_ n7_; clear ho hb hg hat; obtain ⟨Ao81, co81, eo81⟩ := Kd.R_slice HO124.out; subst eo81; have hcz82_0 : w80.cell? ⟨gb110, 0, none⟩ = some (.int .i8 a0_0) := (blk_cell BK110.out 0).trans rfl; have hcz82_1 : w80.cell? ⟨gb110, 1, none⟩ = some (.slice Ao75 x111001_1.length co75) := (blk_cell BK110.out 1).trans rfl; have hcz82_2 : w80.cell? ⟨gb110, 2, none⟩ = some (.slice none 0 0) := (blk_cell BK110.out 2).trans rfl; have hfz82_0 := blk_frozen BK110.out 0; have hfz82_1 := blk_frozen BK110.out 1; have hfz82_2 := blk_frozen BK110.out 2))
                          go_roundg k1
                          case measure => have := HK1.out; omega
                          case rel => exact ⟨(y121), (wrap64 (x7_1 + 1)), (y122), (.slice Ao81 y122.length co81), (by first | rfl | (simp; done) | (simp [*]; done)), H', ⟨by have := HK1.out; omega⟩, ⟨by (with_reducible repeat (first | apply Kd.R_alloc | apply Kd.R_drewN | apply Kd.R_drew)); exact Kd.R_mono (Kd.R_far (p := ⟨gb110, 1, none⟩) (Kd.R_types HO_4.out BK110.out (by decide)) (fun _ hk => hk.2) (.slice Ao81 y122.length co81)) (fun _ hk => trivial)⟩, ⟨by (with_reducible repeat (first | apply Kd.R_alloc | apply Kd.R_drewN | apply Kd.R_drew)); exact Kd.R_mono (Kd.R_far (p := ⟨gb110, 1, none⟩) (Kd.R_types HO_5.out BK110.out (by decide)) (fun _ hk => hk.2) (.slice Ao81 y122.length co81)) (fun _ hk => trivial)⟩, ⟨by (with_reducible repeat (first | apply Kd.R_alloc | apply Kd.R_drewN | apply Kd.R_drew)); exact Kd.R_mono (Kd.R_far (p := ⟨gb110, 1, none⟩) (Kd.R_types HO124.out BK110.out (by decide)) (fun _ hk => hk.2) (.slice Ao81 y122.length co81)) (fun _ hk => trivial)⟩, ⟨by (with_reducible repeat (first | refine blk_drewN ?_ _ | refine blk_drew ?_ | refine blk_alloc ?_ _)); refine blk_far ?_ NB101_110.out _; (with_reducible repeat (first | refine blk_drewN ?_ _ | refine blk_drew ?_ | refine blk_alloc ?_ _)); exact BK101.out⟩, ⟨by (with_reducible repeat (first | refine blk_drewN ?_ _ | refine blk_drew ?_ | refine blk_alloc ?_ _)); refine blk_far ?_ NB102_110.out _; (with_reducible repeat (first | refine blk_drewN ?_ _ | refine blk_drew ?_ | refine blk_alloc ?_ _)); exact BK102.out⟩, ⟨by (with_reducible repeat (first | refine blk_drewN ?_ _ | refine blk_drew ?_ | refine blk_alloc ?_ _)); refine blk_put (cs := #[.int .i8 a0_0, .slice Ao75 x111001_1.length co75, .slice none 0 0]) ?_ 1 _ rfl; (with_reducible repeat (first | refine blk_drewN ?_ _ | refine blk_drew ?_ | refine blk_alloc ?_ _)); exact BK110.out⟩, ⟨by repeat (first | (with_reducible first | exact HB.out | apply below_alloc | apply pw_below_drewN | apply below_drew1 | refine below_set ?_ GE101.out | refine below_set ?_ GE102.out | refine below_set ?_ GE110.out | refine below_set ?_ GE113.out) | exact HB.out)⟩⟩
                        · rw [if_neg c62] at H
                          exact absurd H (by simp)
                      · rw [if_neg c60] at H
                        exact absurd H (by simp)
                  · replace c24 := Bool.eq_false_iff.mpr c24
                    subst c24
                    have H1 : (spec_TrimCircuit.l0 k1 t104 x5_1 (wrap64 (x7_1 + 1)) a0_0 l0_1 l0_2 a0_0 x111001_1) = some (r1, r2, r3, r4) := by rw [if_neg (show ¬ (false = true) by decide)] at H; exact H
                    clear H
                    have H := H1
                    clear H1
                    have H' := Aside0.mk H
                    clear H
                    have hnb83 := NB101_102.out
                    have hnc83 := NB102_101.out
                    have hnb84 := NB101_110.out
                    have hnc84 := NB110_101.out
                    have hcz85_0 : wr.cell? ⟨gb101, 0, none⟩ = some (.int .i8 a0_0) := (blk_cell BK101.out 0).trans rfl
                    have hcz85_1 : wr.cell? ⟨gb101, 1, none⟩ = some (.slice A0_1 l0_1.length c0_1) := (blk_cell BK101.out 1).trans rfl
                    have hcz85_2 : wr.cell? ⟨gb101, 2, none⟩ = some (.slice A0_2 l0_2.length c0_2) := (blk_cell BK101.out 2).trans rfl
                    have hfz85_0 := blk_frozen BK101.out 0
                    have hfz85_1 := blk_frozen BK101.out 1
                    have hfz85_2 := blk_frozen BK101.out 2
                    obtain ⟨Ao86, co86, eo86⟩ := Kd.R_slice HO_4.out
                    subst eo86
                    have p111 : 0 ≤ (x7_1 : Int) := of_decide_eq_true (by first | (with_reducible assumption) | assumption)
                    have q111 : x7_1 < (t104.length : Int) := of_decide_eq_true (by first | (with_reducible assumption) | assumption)
                    obtain ⟨ad111, e111, hx111_0⟩ := Kd.at_bool (Kd.R_reads' HO_4.out).2.2 x7_1 p111 q111
                    (try rw [← Nbq23.out] at hx111_0)
                    cases e111
                    replace p111 := eq_true p111
                    replace q111 := eq_true q111
                    go_wp2
                    go_roundg k1
                    case measure => have := HK1.out; omega
                    case rel => exact ⟨(x5_1), (wrap64 (x7_1 + 1)), (x111001_1), (u111001), (by first | rfl | (simp; done) | (simp [*]; done)), H', ⟨by have := HK1.out; omega⟩, ⟨by (with_reducible repeat (first | apply Kd.R_alloc | apply Kd.R_drewN | apply Kd.R_drew)); exact HO_4.out⟩, ⟨by (with_reducible repeat (first | apply Kd.R_alloc | apply Kd.R_drewN | apply Kd.R_drew)); exact HO_5.out⟩, ⟨by (with_reducible repeat (first | apply Kd.R_alloc | apply Kd.R_drewN | apply Kd.R_drew)); exact HO_111001.out⟩, ⟨by (with_reducible repeat (first | refine blk_drewN ?_ _ | refine blk_drew ?_ | refine blk_alloc ?_ _)); exact BK101.out⟩, ⟨by (with_reducible repeat (first | refine blk_drewN ?_ _ | refine blk_drew ?_ | refine blk_alloc ?_ _)); exact BK102.out⟩, ⟨by (with_reducible repeat (first | refine blk_drewN ?_ _ | refine blk_drew ?_ | refine blk_alloc ?_ _)); exact BK110.out⟩, ⟨by repeat (first | (with_reducible first | exact HB.out | apply below_alloc | apply pw_below_drewN | apply below_drew1 | refine below_set ?_ GE101.out | refine below_set ?_ GE102.out | refine below_set ?_ GE110.out) | exact HB.out)⟩⟩
                · rw [if_neg c22] at H
                  exact absurd H (by simp)
              · rw [if_neg c21] at H
                exact absurd H (by simp)
            · rw [if_neg c20] at H
              have c20b0 : decide (x7_1 < (l0_1.length : Int)) = false := decide_eq_false c20
              clear c20
              have H' := Aside0.mk H
              clear H
              have hnb87 := NB101_102.out
              have hnc87 := NB102_101.out
              have hnb88 := NB101_110.out
              have hnc88 := NB110_101.out
              have hcz89_0 : wr.cell? ⟨gb101, 0, none⟩ = some (.int .i8 a0_0) := (blk_cell BK101.out 0).trans rfl
              have hcz89_1 : wr.cell? ⟨gb101, 1, none⟩ = some (.slice A0_1 l0_1.length c0_1) := (blk_cell BK101.out 1).trans rfl
              have hcz89_2 : wr.cell? ⟨gb101, 2, none⟩ = some (.slice A0_2 l0_2.length c0_2) := (blk_cell BK101.out 2).trans rfl
              have hfz89_0 := blk_frozen BK101.out 0
              have hfz89_1 := blk_frozen BK101.out 1
              have hfz89_2 := blk_frozen BK101.out 2
              go_wp2
              go_loopg [9] k1 (fun kq v9 w' => ∃ (x9_2 : Int) (x111002_2 : List Int) (u111002 : Value), v9 = .int .i64 x9_2 ∧ Aside0 (spec_TrimCircuit.l1 kq x5_1 x9_2 a0_0 l0_1 l0_2 a0_0 x111001_1 x111002_2 = some (r1, r2, r3, r4)) ∧ Aside0 (kq ≤ k1) ∧ Aside0 (Kd.R (Kd.int .i16) 66 w' w.heap.size (fun k_ => some k_ ≠ (u111002 : Value).ownBlock) v108 x5_1) ∧ Aside0 (Kd.R k68 68 w' w.heap.size (fun _ => True) u111001 x111001_1) ∧ Aside0 (Kd.R (Kd.int .i16) 66 w' w.heap.size (fun k_ => some k_ ≠ (v108 : Value).ownBlock) u111002 x111002_2) ∧ Aside0 (w'.heap[gb101]? = some (.cells #[.int .i8 a0_0, (.slice A0_1 l0_1.length c0_1), (.slice A0_2 l0_2.length c0_2)] 30 (0, 0))) ∧ Aside0 (w'.heap[gb102]? = some (.cells #[.int .i8 0, (.slice none 0 0), (.slice none 0 0)] 30 (0, 0))) ∧ Aside0 (w'.heap[gb110]? = some (.cells #[.int .i8 a0_0, u111001, u111002] 30 (0, 0))) ∧ Aside0 (Below w.heap.size w w'))
              case atStart => exact ⟨(0), (([] : List Int)), (.slice none 0 0), (by first | rfl | (simp; done) | (simp [*]; done)), H', ⟨Nat.le_refl _⟩, ⟨by (with_reducible repeat (first | apply Kd.R_alloc | apply Kd.R_drewN | apply Kd.R_drew)); exact Kd.R_mono HO_5.out (fun _ hk => (by simp [Value.ownBlock]))⟩, ⟨by (with_reducible repeat (first | apply Kd.R_alloc | apply Kd.R_drewN | apply Kd.R_drew)); exact HO_111001.out⟩, ⟨by first | exact Kd.R_nil _ _ _ _ _ | exact Kd.N_nil _ _ _ _ _ | exact Kd.V_nil _ _ _ _ _ | exact Kd.Q_nil _ _ _ _ _ | exact Kd.S_nil _ _ _ _ _⟩, ⟨by (with_reducible repeat (first | refine blk_drewN ?_ _ | refine blk_drew ?_ | refine blk_alloc ?_ _)); exact BK101.out⟩, ⟨by (with_reducible repeat (first | refine blk_drewN ?_ _ | refine blk_drew ?_ | refine blk_alloc ?_ _)); exact BK102.out⟩, ⟨by (with_reducible repeat (first | refine blk_drewN ?_ _ | refine blk_drew ?_ | refine blk_alloc ?_ _)); exact BK110.out⟩, ⟨by repeat (first | (with_reducible first | exact HB.out | apply below_alloc | apply pw_below_drewN | apply below_drew1 | refine below_set ?_ GE101.out | refine below_set ?_ GE102.out | refine below_set ?_ GE110.out) | exact HB.out)⟩⟩
              case round =>
                clear H'
                try clear c1
                try clear p1
                try clear q1
                try clear hx1
                try clear c2
                try clear p2
                try clear q2
                try clear c3
                try clear p3
                try clear q3
                try clear hx3
                try clear hf3
                try clear c4
                try clear c5
                try clear c5b0
                try clear c5b1
                try clear c6
                try clear c6b0
                try clear c6b1
                try clear p6
                try clear q6
                try clear hx6
                try clear hf6
                try clear c7
                try clear c8
                try clear c11
                try clear p11
                try clear q11
                try clear hx11
                try clear c17
                try clear c18
                try clear c20
                try clear c20b0
                try clear c21
                try clear c21b0
                try clear c22
                try clear c22b0
                try clear q23
                try clear c24
                try clear c26
                try clear c27
                try clear c27b0
                try clear c28
                try clear c28b0
                try clear c29
                try clear c29b0
                try clear c30
                try clear c30b0
                try clear c31
                try clear c31b0
                try clear p32
                try clear q32
                try clear hx32
                try clear hf32
                try clear c33
                try clear c34
                try clear c35
                try clear c39
                try clear c40
                try clear c41
                try clear c43
                try clear c45
                try clear c50
                try clear c60
                try clear c60b0
                try clear c61
                try clear p61
                try clear q61
                try clear hx61
                try clear hf61
                try clear c62
                try clear c63
                try clear c64
                try clear p64
                try clear c68
                try clear c69
                try clear c70
                try clear c73
                try clear c83
                try clear c84
                try clear c87
                try clear c88
                try clear hcz12_0
                try clear hcz12_1
                try clear hcz12_2
                try clear hcz15_0
                try clear hcz15_1
                try clear hcz15_2
                try clear hcz19_0
                try clear hcz19_1
                try clear hcz19_2
                try clear hcz36_0
                try clear hcz36_1
                try clear hcz36_2
                try clear hcz42_0
                try clear hcz42_1
                try clear hcz42_2
                try clear hcz51_0
                try clear hcz51_1
                try clear hcz51_2
                try clear hcz55_0
                try clear hcz55_1
                try clear hcz55_2
                try clear hcz56_0
                try clear hcz56_1
                try clear hcz56_2
                try clear hcz59_0
                try clear hcz59_1
                try clear hcz59_2
                try clear hcz65_0
                try clear hcz65_1
                try clear hcz65_2
                try clear hcz71_0
                try clear hcz71_1
                try clear hcz71_2
                try clear hcz74_0
                try clear hcz74_1
                try clear hcz74_2
                try clear hcz78_0
                try clear hcz78_1
                try clear hcz78_2
                try clear hcz79_0
                try clear hcz79_1
                try clear hcz79_2
                try clear hcz82_0
                try clear hcz82_1
                try clear hcz82_2
                try clear hcz85_0
                try clear hcz85_1
                try clear hcz85_2
                try clear hcz89_0
                try clear hcz89_1
                try clear hcz89_2
                try clear hfz12_0
                try clear hfz12_1
                try clear hfz12_2
                try clear hfz15_0
                try clear hfz15_1
                try clear hfz15_2
                try clear hfz19_0
                try clear hfz19_1
                try clear hfz19_2
                try clear hfz36_0
                try clear hfz36_1
                try clear hfz36_2
                try clear hfz42_0
                try clear hfz42_1
                try clear hfz42_2
                try clear hfz51_0
                try clear hfz51_1
                try clear hfz51_2
                try clear hfz55_0
                try clear hfz55_1
                try clear hfz55_2
                try clear hfz56_0
                try clear hfz56_1
                try clear hfz56_2
                try clear hfz59_0
                try clear hfz59_1
                try clear hfz59_2
                try clear hfz65_0
                try clear hfz65_1
                try clear hfz65_2
                try clear hfz71_0
                try clear hfz71_1
                try clear hfz71_2
                try clear hfz74_0
                try clear hfz74_1
                try clear hfz74_2
                try clear hfz78_0
                try clear hfz78_1
                try clear hfz78_2
                try clear hfz79_0
                try clear hfz79_1
                try clear hfz79_2
                try clear hfz82_0
                try clear hfz82_1
                try clear hfz82_2
                try clear hfz85_0
                try clear hfz85_1
                try clear hfz85_2
                try clear hfz89_0
                try clear hfz89_1
                try clear hfz89_2
                try clear hx111_0
                try clear hx112_0
                try clear hx112_1
                try clear hx112_2
                try clear hx115_0
                try clear hx116_0
                try clear hx32_0
                try clear hx61_0
                try clear p111
                try clear p112
                try clear p115
                try clear p116
                try clear p2
                try clear p32
                try clear p61
                try clear q111
                try clear q112
                try clear q115
                try clear q116
                try clear q32
                try clear q61
                obtain ⟨x9_2, x111002_2, u111002, rfl, HA, HK2, HO_5, HO_111001, HO_111002, BK101, BK102, BK110, HB⟩ := hrel
                cases gk with
                | zero => exact absurd HA.out (by simp [spec_TrimCircuit.l1])
                | succ k2 =>
                  have H := HA.out
                  clear HA
                  simp only [spec_TrimCircuit.l1] at H
                  by_cases c90 : x9_2 < (l0_2.length : Int)
                  · rw [if_pos c90] at H
                    have c90b0 : decide (x9_2 < (l0_2.length : Int)) = true := decide_eq_true c90
                    clear c90
                    by_cases c91 : 0 ≤ x9_2
                    · rw [if_pos c91] at H
                      have c91b0 : decide (0 ≤ x9_2) = true := decide_eq_true c91
                      clear c91
                      by_cases c92 : 0 ≤ (rd l0_2 x9_2)
                      · rw [if_pos c92] at H
                        have c92b0 : decide (0 ≤ (rd l0_2 x9_2)) = true := decide_eq_true c92
                        clear c92
                        by_cases c93 : (rd l0_2 x9_2) < (x5_1.length : Int)
                        · rw [if_pos c93] at H
                          have c93b0 : decide ((rd l0_2 x9_2) < (x5_1.length : Int)) = true := decide_eq_true c93
                          clear c93
                          by_cases c94 : x111002_2.length < 70368744177664
                          · rw [if_pos c94] at H
                            have LMc94 := Aside0.mk c94
                            clear c94
                            obtain ⟨y127, hy127⟩ : ∃ y_ : List Int, y_ = (x111002_2 ++ [rd x5_1 (rd l0_2 x9_2)]) := ⟨_, rfl⟩
                            replace H : (spec_TrimCircuit.l1 k2 x5_1 (wrap64 (x9_2 + 1)) a0_0 l0_1 l0_2 a0_0 x111001_1 y127) = some (r1, r2, r3, r4) := by first | (rw [hy127]; with_reducible exact H) | (have H2_ := (Option.bind_some _ _).symm.trans H; rw [hy127]; with_reducible exact H2_) | (have H2_ := (Option.bind_some _ _).symm.trans H; with_reducible exact H2_) | with_reducible exact H | (rw [hy127]; exact H) | exact H
                            have Ny127 := Aside0.mk hy127
                            clear hy127
                            have H' := Aside0.mk H
                            clear H
                            have hnb95 := NB101_102.out
                            have hnc95 := NB102_101.out
                            have hnb96 := NB101_110.out
                            have hnc96 := NB110_101.out
                            have hcz97_0 : wr.cell? ⟨gb101, 0, none⟩ = some (.int .i8 a0_0) := (blk_cell BK101.out 0).trans rfl
                            have hcz97_1 : wr.cell? ⟨gb101, 1, none⟩ = some (.slice A0_1 l0_1.length c0_1) := (blk_cell BK101.out 1).trans rfl
                            have hcz97_2 : wr.cell? ⟨gb101, 2, none⟩ = some (.slice A0_2 l0_2.length c0_2) := (blk_cell BK101.out 2).trans rfl
                            have hfz97_0 := blk_frozen BK101.out 0
                            have hfz97_1 := blk_frozen BK101.out 1
                            have hfz97_2 := blk_frozen BK101.out 2
                            try go_wp2
                            have n0_ := Aside0.mk (Kd.R_drew HO_5.out)
                            have n1_ := Aside0.mk (Kd.R_drew HO_111001.out)
                            have n2_ := Aside0.mk (Kd.R_drew HO_111002.out)
                            have n3_ := Aside0.mk (blk_drew BK101.out)
                            have n4_ := Aside0.mk (blk_drew BK102.out)
                            have n5_ := Aside0.mk (blk_drew BK110.out)
                            have n6_ := Aside0.mk (below_drew1 HB.out)
                            clear HO_5
                            clear HO_111001
                            clear HO_111002
                            clear BK101
                            clear BK102
                            clear BK110
                            clear HB
                            have HO_5 := n0_
                            have HO_111001 := n1_
                            have HO_111002 := n2_
                            have BK101 := n3_
                            have BK102 := n4_
                            have BK110 := n5_
                            have HB := n6_
                            clear n0_ n1_ n2_ n3_ n4_ n5_ n6_
                            have p125 : 0 ≤ (x9_2 : Int) := of_decide_eq_true (by first | (with_reducible assumption) | assumption)
                            have q125 : x9_2 < (l0_2.length : Int) := of_decide_eq_true (by first | (with_reducible assumption) | assumption)
                            obtain ⟨ad125, e125, hx125_0⟩ := Kd.at_int HR0_2.out x9_2 p125 q125
                            have hw125_0 := hx125_0
                            cases e125
                            replace hx125_0 := (HB.out.cell (World.block_lt_of_cell? w _ hx125_0)).trans hx125_0
                            replace p125 := eq_true p125
                            replace q125 := eq_true q125
                            obtain ⟨Ao99, co99, eo99⟩ := Kd.R_slice HO_5.out
                            (first | subst eo99 | (injection eo99 with f1_ f2_ f3_; have f4_ := f1_.symm; have f5_ := f3_.symm; clear f1_ f2_ f3_; subst f4_; subst f5_))
                            have p126 : 0 ≤ ((rd l0_2 x9_2) : Int) := of_decide_eq_true (by first | (with_reducible assumption) | assumption)
                            have q126 : (rd l0_2 x9_2) < (x5_1.length : Int) := of_decide_eq_true (by first | (with_reducible assumption) | assumption)
                            obtain ⟨ad126, e126, hx126_0⟩ := Kd.at_int (Kd.R_reads' HO_5.out).2.2 (rd l0_2 x9_2) p126 q126
                            cases e126
                            replace p126 := eq_true p126
                            replace q126 := eq_true q126
                            refine start_ (n := 14) (S := fun w' => w'.cell? ⟨gb110, 0, none⟩ = some (.int .i8 a0_0) ∧ w'.cell? ⟨gb110, 1, none⟩ = some (u111001) ∧ w'.cell? ⟨gb110, 2, none⟩ = some (u111002) ∧ w'.cell? ⟨gb101, 0, none⟩ = some (.int .i8 a0_0) ∧ w'.cell? ⟨gb101, 1, none⟩ = some (.slice A0_1 l0_1.length c0_1) ∧ w'.cell? ⟨gb101, 2, none⟩ = some (.slice (some ad125) l0_2.length c0_2) ∧ w'.cell? (ad125.add (x9_2).toNat) = some (.int .i16 (rd l0_2 x9_2)) ∧ w'.cell? (ad126.add ((rd l0_2 x9_2)).toNat) = some (.int .i16 (rd x5_1 (rd l0_2 x9_2)))) (ds := [11, 13]) #[false, false, false, false, false, false, false, false, false, false, false, false, false, false] (by kernel_rfl) rfl rfl ⟨(blk_cell BK110.out 0).trans rfl, (blk_cell BK110.out 1).trans rfl, (blk_cell BK110.out 2).trans rfl, (blk_cell BK101.out 0).trans rfl, (blk_cell BK101.out 1).trans rfl, (blk_cell BK101.out 2).trans rfl, ((HB.out.cell (World.block_lt_of_cell? w _ hw125_0)).trans hw125_0), hx126_0⟩ (fun hHeld => ?_); refine with_tabW spec_TrimCircuit.tab18 spec_TrimCircuit.bits18 (fun HT_ HW_ => ?_)
                            generalize wr.drew = w98 at HO_5 HO_111001 HO_111002 BK101 BK102 BK110 HB hx125_0 hx126_0 hHeld ⊢
                            refine pure_ (i := 0) (N := some 73) (v := ?_) (a' := ?_) #[true, false, false, false, false, false, false, false, false, false, false, false, false, false] rfl rfl (any_of HT_.out (by kernel_rfl)) (fun _ _ _ h => h) (Or.inl ⟨by rfl, ?_⟩) ?_ ?_
                            rotate_left
                            · intro w'
                              go_simp
                              with_reducible rfl
                            rotate_left
                            · simp only [Act.put, List.setIfInBounds_toArray, List.set_cons_zero, List.set_cons_succ, i64_w, i32_w]
                              rfl
                            refine pure_ (i := 2) (N := some 75) (v := ?_) (a' := ?_) #[true, false, true, false, false, false, false, false, false, false, false, false, false, false] rfl rfl (any_of HT_.out (by kernel_rfl)) (fun _ _ _ h => h) (Or.inl ⟨by rfl, ?_⟩) ?_ ?_
                            rotate_left
                            · intro w'
                              go_simp
                              with_reducible rfl
                            rotate_left
                            · simp only [Act.put, List.setIfInBounds_toArray, List.set_cons_zero, List.set_cons_succ, i64_w, i32_w]
                              rfl
                            refine pure_ (i := 3) (N := some 76) (v := ?_) (a' := ?_) #[true, false, true, true, false, false, false, false, false, false, false, false, false, false] rfl rfl (any_of HT_.out (by kernel_rfl)) (fun _ _ _ h => h) (Or.inl ⟨by rfl, ?_⟩) ?_ ?_
                            rotate_left
                            · intro w'
                              go_simp
                              with_reducible rfl
                            rotate_left
                            · simp only [Act.put, List.setIfInBounds_toArray, List.set_cons_zero, List.set_cons_succ, i64_w, i32_w]
                              rfl
                            refine pure_ (i := 5) (N := some 78) (v := ?_) (a' := ?_) #[true, false, true, true, false, true, false, false, false, false, false, false, false, false] rfl rfl (any_of HT_.out (by kernel_rfl)) (fun _ _ _ h => h) (Or.inl ⟨by rfl, ?_⟩) ?_ ?_
                            rotate_left
                            · intro w'
                              go_simp
                              with_reducible rfl
                            rotate_left
                            · simp only [Act.put, List.setIfInBounds_toArray, List.set_cons_zero, List.set_cons_succ, i64_w, i32_w]
                              rfl
                            refine take_ (i := 1) (N := some 74) (v := ?_) (a' := ?_) #[true, true, true, true, false, true, false, false, false, false, false, false, false, false] rfl rfl (take_ofW HT_.out HW_.out (by kernel_rfl)) (fun _ _ _ h => h) (Or.inl ⟨by rfl, ?_⟩) hHeld ?_ ?_
                            rotate_left
                            · rintro w' ⟨s0, s1, s2, s3, s4, s5, s6, s7⟩
                              go_simp
                              with_reducible rfl
                            rotate_left
                            · simp only [Act.put, List.setIfInBounds_toArray, List.set_cons_zero, List.set_cons_succ, i64_w, i32_w]
                              rfl
                            refine take_ (i := 4) (N := some 77) (v := ?_) (a' := ?_) #[true, true, true, true, true, true, false, false, false, false, false, false, false, false] rfl rfl (take_ofW HT_.out HW_.out (by kernel_rfl)) (fun _ _ _ h => h) (Or.inl ⟨by rfl, ?_⟩) hHeld ?_ ?_
                            rotate_left
                            · rintro w' ⟨s0, s1, s2, s3, s4, s5, s6, s7⟩
                              go_simp
                              with_reducible rfl
                            rotate_left
                            · simp only [Act.put, List.setIfInBounds_toArray, List.set_cons_zero, List.set_cons_succ, i64_w, i32_w]
                              rfl
                            refine pure_ (i := 6) (N := some 79) (v := ?_) (a' := ?_) #[true, true, true, true, true, true, true, false, false, false, false, false, false, false] rfl rfl (any_of HT_.out (by kernel_rfl)) (fun _ _ _ h => h) (Or.inl ⟨by rfl, ?_⟩) ?_ ?_
                            rotate_left
                            · intro w'
                              go_simp
                              with_reducible rfl
                            rotate_left
                            · simp only [Act.put, List.setIfInBounds_toArray, List.set_cons_zero, List.set_cons_succ, i64_w, i32_w]
                              rfl
                            refine take_ (i := 7) (N := some 80) (v := ?_) (a' := ?_) #[true, true, true, true, true, true, true, true, false, false, false, false, false, false] rfl rfl (take_ofW HT_.out HW_.out (by kernel_rfl)) (fun _ _ _ h => h) (Or.inl ⟨by rfl, ?_⟩) hHeld ?_ ?_
                            rotate_left
                            · rintro w' ⟨s0, s1, s2, s3, s4, s5, s6, s7⟩
                              go_simp
                              with_reducible rfl
                            rotate_left
                            · simp only [Act.put, List.setIfInBounds_toArray, List.set_cons_zero, List.set_cons_succ, i64_w, i32_w]
                              rfl
                            refine pure_ (i := 8) (N := some 81) (v := ?_) (a' := ?_) #[true, true, true, true, true, true, true, true, true, false, false, false, false, false] rfl rfl (any_of HT_.out (by kernel_rfl)) (fun _ _ _ h => h) (Or.inl ⟨by rfl, ?_⟩) ?_ ?_
                            rotate_left
                            · intro w'
                              go_simp
                              with_reducible rfl
                            rotate_left
                            · simp only [Act.put, List.setIfInBounds_toArray, List.set_cons_zero, List.set_cons_succ, i64_w, i32_w]
                              rfl
                            refine take_ (i := 9) (N := some 82) (v := ?_) (a' := ?_) #[true, true, true, true, true, true, true, true, true, true, false, false, false, false] rfl rfl (take_ofW HT_.out HW_.out (by kernel_rfl)) (fun _ _ _ h => h) (Or.inl ⟨by rfl, ?_⟩) hHeld ?_ ?_
                            rotate_left
                            · rintro w' ⟨s0, s1, s2, s3, s4, s5, s6, s7⟩
                              go_simp
                              with_reducible rfl
                            rotate_left
                            · simp only [Act.put, List.setIfInBounds_toArray, List.set_cons_zero, List.set_cons_succ, i64_w, i32_w]
                              rfl
                            refine one_ (i := 10) (N := some 83) #[true, true, true, true, true, true, true, true, true, true, true, false, false, false] rfl rfl (one_of HT_.out (by kernel_rfl)) (by decide) (fun K hK => ?_)
                            refine value_ (w1 := ?_) (v := ?_) (by rfl) rfl ?_ ?_
                            rotate_left 2
                            · go_simp
                              constructor
                              · rfl
                              · rfl
                            refine hK.out _ _ ⟨(blk_cell (blk_alloc BK110.out _) 0).trans rfl, (blk_cell (blk_alloc BK110.out _) 1).trans rfl, (blk_cell (blk_alloc BK110.out _) 2).trans rfl, (blk_cell (blk_alloc BK101.out _) 0).trans rfl, (blk_cell (blk_alloc BK101.out _) 1).trans rfl, (blk_cell (blk_alloc BK101.out _) 2).trans rfl, (World.cell?_alloc_lt _ _ _ (World.block_lt_of_cell? _ _ (((HB.out.cell (World.block_lt_of_cell? w _ hw125_0)).trans hw125_0)))).trans (((HB.out.cell (World.block_lt_of_cell? w _ hw125_0)).trans hw125_0)), (World.cell?_alloc_lt _ _ _ (World.block_lt_of_cell? _ _ (hHeld.2.2.2.2.2.2.2))).trans (hHeld.2.2.2.2.2.2.2)⟩ (fun hHeld => ?_)
                            clear hK K
                            refine norm_ (a' := ?_) ?_ ?_
                            rotate_left
                            · show Act.put _ (some 83) _ = _
                              simp only [Act.put, List.setIfInBounds_toArray, List.set_cons_zero, List.set_cons_succ, i64_w, i32_w]
                              rfl
                            refine last_ (i := 11) (N := some 84) #[true, true, true, true, true, true, true, true, true, true, true, true, false, false] rfl rfl (one_of HT_.out (by kernel_rfl)) (by decide) (fun K hK => ?_)
                            refine Kd.R_append_step (Kd.int .i16) (w0 := w) w.heap.size (by rfl) (.tmp 74) (.tmp 83) 24 66 (.int .i16 0) 2 rfl Try.underlying24 info66 rfl (by decide) (by omega) u111002 x111002_2 (rd x5_1 (rd l0_2 x9_2)) [.int .i16 (rd x5_1 (rd l0_2 x9_2))] (fun k_ => some k_ ≠ (.slice (some ad126) x5_1.length co99 : Value).ownBlock) (fun _ => False) rfl rfl ?aP (fun _ hk => hk.elim) ?aF ?aO ?aB ?aS ?aL ?_
                            (case aP => exact rfl)
                            (case aB => exact (by repeat (first | (with_reducible first | exact HB.out | apply below_alloc | apply pw_below_drewN | apply below_drew1 | refine below_set ?_ GE101.out | refine below_set ?_ GE102.out | refine below_set ?_ GE110.out) | exact HB.out)))
                            (case aF => exact (fun k_ hk => Kd.fresh' (Kd.R_lt (by (with_reducible repeat (first | apply Kd.R_alloc | apply Kd.R_drewN | apply Kd.R_drew)); exact HO_5.out)) k_ hk))
                            (case aO => exact (by (with_reducible repeat (first | apply Kd.R_alloc | apply Kd.R_drewN | apply Kd.R_drew)); exact HO_111002.out))
                            (case aS => exact (below_size (by repeat (first | (with_reducible first | exact HB.out | apply below_alloc | apply pw_below_drewN | apply below_drew1 | refine below_set ?_ GE101.out | refine below_set ?_ GE102.out | refine below_set ?_ GE110.out) | exact HB.out))))
                            (case aL => have := LMc94.out; omega)
                            intro v128 w100 ho hb hg hat
                            rw [← Ny127.out] at ho
                            have n0_ := Aside0.mk (Kd.R_after (ok := (fun _ => True)) (by (with_reducible repeat (first | apply Kd.R_alloc | apply Kd.R_drewN | apply Kd.R_drew)); exact Kd.R_mono HO_5.out (fun _ hk => ⟨trivial, hk⟩)) hg hat)
                            have n1_ := Aside0.mk (Kd.R_over' (by (with_reducible repeat (first | apply Kd.R_alloc | apply Kd.R_drewN | apply Kd.R_drew)); exact HO_111001.out) (Kd.R_typed (by (with_reducible repeat (first | apply Kd.R_alloc | apply Kd.R_drewN | apply Kd.R_drew)); exact HO_111002.out)) (by decide) hg)
                            have n2_ := Aside0.mk (blk_grown (g := gb101) (o := .cells #[.int .i8 a0_0, .slice A0_1 l0_1.length c0_1, .slice (some ad125) l0_2.length c0_2] 30 (0, 0)) (by (with_reducible repeat (first | refine blk_drewN ?_ _ | refine blk_drew ?_ | refine blk_alloc ?_ _)); exact BK101.out) hg (Kd.R_ne HO_111002.out BK101.out (by decide)))
                            have n3_ := Aside0.mk (blk_grown (g := gb102) (o := .cells #[.int .i8 0, .slice none 0 0, .slice none 0 0] 30 (0, 0)) (by (with_reducible repeat (first | refine blk_drewN ?_ _ | refine blk_drew ?_ | refine blk_alloc ?_ _)); exact BK102.out) hg (Kd.R_ne HO_111002.out BK102.out (by decide)))
                            have n4_ := Aside0.mk (blk_grown (g := gb110) (o := .cells #[.int .i8 a0_0, u111001, u111002] 30 (0, 0)) (by (with_reducible repeat (first | refine blk_drewN ?_ _ | refine blk_drew ?_ | refine blk_alloc ?_ _)); exact BK110.out) hg (Kd.R_ne HO_111002.out BK110.out (by decide)))
                            have n5_ := Aside0.mk (hb)
                            have n6_ := Aside0.mk (ho)
                            clear HO_5
                            clear HO_111001
                            clear BK101
                            clear BK102
                            clear BK110
                            clear HB
                            clear HO_111002
                            have HO_5 := n0_
                            have HO_111001 := n1_
                            have BK101 := n2_
                            have BK102 := n3_
                            have BK110 := n4_
                            have HB := n5_
                            have HO129 := n6_
                            clear n0_ n1_ n2_ n3_ n4_ n5_ n6_
                            clear ho hb hg hat
                            obtain ⟨Ao101, co101, eo101⟩ := Kd.R_slice HO129.out
                            (first | subst eo101 | (injection eo101 with f1_ f2_ f3_; have f4_ := f1_.symm; have f5_ := f3_.symm; clear f1_ f2_ f3_; subst f4_; subst f5_))
                            refine hK.out _ _ ?_
                            clear hK K
                            refine norm_ (a' := ?_) ?_ ?_
                            rotate_left
                            · show Act.put _ (some 84) _ = _
                              simp only [Act.put, List.setIfInBounds_toArray, List.set_cons_zero, List.set_cons_succ, i64_w, i32_w]
                              rfl
                            refine pure_ (i := 12) (N := some 85) (v := ?_) (a' := ?_) #[true, true, true, true, true, true, true, true, true, true, true, true, true, false] rfl rfl (any_of HT_.out (by kernel_rfl)) (fun _ _ _ h => h) (Or.inl ⟨by rfl, ?_⟩) ?_ ?_
                            rotate_left
                            · intro w'
                              go_simp
                              with_reducible rfl
                            rotate_left
                            · simp only [Act.put, List.setIfInBounds_toArray, List.set_cons_zero, List.set_cons_succ, i64_w, i32_w]
                              rfl
                            refine last_ (i := 13) (N := none) #[true, true, true, true, true, true, true, true, true, true, true, true, true, true] rfl rfl (one_of HT_.out (by kernel_rfl)) (by decide) (fun K hK => ?_)
                            have hs102 : w100.cell? ⟨gb110, 2, none⟩ = some (u111002) := (blk_cell BK110.out 2).trans rfl
                            have hfs102 := blk_frozen BK110.out 2
                            have hns102_0 := NB101_110.out
                            have hns102_1 := NB102_110.out
                            have hms102_0 := NB110_101.out
                            have hms102_1 := NB110_102.out
                            refine skip_ (w1 := ?_) (by rfl) rfl ?_ ?_
                            rotate_left
                            · go_simp
                              rfl
                            refine hK.out _ _ ?_
                            clear hK K
                            refine done_ (done_of HT_.out (by kernel_rfl)) ?_
                            try go_wp2
                            go_roundg k2
                            case measure => have := HK1.out; have := HK2.out; omega
                            case rel => exact ⟨(wrap64 (x9_2 + 1)), (y127), (.slice Ao101 y127.length co101), (by first | rfl | (simp; done) | (simp [*]; done)), H', ⟨by have := HK1.out; have := HK2.out; omega⟩, ⟨by (with_reducible repeat (first | apply Kd.R_alloc | apply Kd.R_drewN | apply Kd.R_drew)); exact Kd.R_mono (Kd.R_far (p := ⟨gb110, 2, none⟩) (Kd.R_types HO_5.out BK110.out (by decide)) (fun _ hk => hk.2) (.slice Ao101 y127.length co101)) (fun _ hk => hk.1.2)⟩, ⟨by (with_reducible repeat (first | apply Kd.R_alloc | apply Kd.R_drewN | apply Kd.R_drew)); exact Kd.R_mono (Kd.R_far (p := ⟨gb110, 2, none⟩) (Kd.R_types HO_111001.out BK110.out (by decide)) (fun _ hk => hk.2) (.slice Ao101 y127.length co101)) (fun _ hk => trivial)⟩, ⟨by (with_reducible repeat (first | apply Kd.R_alloc | apply Kd.R_drewN | apply Kd.R_drew)); exact Kd.R_mono (Kd.R_far (p := ⟨gb110, 2, none⟩) (Kd.R_types HO129.out BK110.out (by decide)) (fun _ hk => hk.2) (.slice Ao101 y127.length co101)) (fun _ hk => hk.1)⟩, ⟨by (with_reducible repeat (first | refine blk_drewN ?_ _ | refine blk_drew ?_ | refine blk_alloc ?_ _)); refine blk_far ?_ NB101_110.out _; (with_reducible repeat (first | refine blk_drewN ?_ _ | refine blk_drew ?_ | refine blk_alloc ?_ _)); exact BK101.out⟩, ⟨by (with_reducible repeat (first | refine blk_drewN ?_ _ | refine blk_drew ?_ | refine blk_alloc ?_ _)); refine blk_far ?_ NB102_110.out _; (with_reducible repeat (first | refine blk_drewN ?_ _ | refine blk_drew ?_ | refine blk_alloc ?_ _)); exact BK102.out⟩, ⟨by (with_reducible repeat (first | refine blk_drewN ?_ _ | refine blk_drew ?_ | refine blk_alloc ?_ _)); refine blk_put (cs := #[.int .i8 a0_0, u111001, u111002]) ?_ 2 _ rfl; (with_reducible repeat (first | refine blk_drewN ?_ _ | refine blk_drew ?_ | refine blk_alloc ?_ _)); exact BK110.out⟩, ⟨by repeat (first | (with_reducible first | exact HB.out | apply below_alloc | apply pw_below_drewN | apply below_drew1 | refine below_set ?_ GE101.out | refine below_set ?_ GE102.out | refine below_set ?_ GE110.out) | exact HB.out)⟩⟩
                          · rw [if_neg c94] at H
                            exact absurd H (by simp)
                        · rw [if_neg c93] at H
                          exact absurd H (by simp)
                      · rw [if_neg c92] at H
                        exact absurd H (by simp)
                    · rw [if_neg c91] at H
                      exact absurd H (by simp)
                  · rw [if_neg c90] at H
                    have c90b0 : decide (x9_2 < (l0_2.length : Int)) = false := decide_eq_false c90
                    clear c90
                    simp only [Option.some.injEq, Prod.mk.injEq] at H
                    obtain ⟨rfl, rfl, rfl, rfl⟩ := H
                    have hnb103 := NB101_102.out
                    have hnc103 := NB102_101.out
                    have hnb104 := NB101_110.out
                    have hnc104 := NB110_101.out
                    have hcz105_0 : wr.cell? ⟨gb101, 0, none⟩ = some (.int .i8 a0_0) := (blk_cell BK101.out 0).trans rfl
                    have hcz105_1 : wr.cell? ⟨gb101, 1, none⟩ = some (.slice A0_1 l0_1.length c0_1) := (blk_cell BK101.out 1).trans rfl
                    have hcz105_2 : wr.cell? ⟨gb101, 2, none⟩ = some (.slice A0_2 l0_2.length c0_2) := (blk_cell BK101.out 2).trans rfl
                    have hfz105_0 := blk_frozen BK101.out 0
                    have hfz105_1 := blk_frozen BK101.out 1
                    have hfz105_2 := blk_frozen BK101.out 2
                    have hnb106 := NB110_102.out
                    have hnc106 := NB102_110.out
                    have hcz107_0 : wr.cell? ⟨gb110, 0, none⟩ = some (.int .i8 a0_0) := (blk_cell BK110.out 0).trans rfl
                    have hcz107_1 : wr.cell? ⟨gb110, 1, none⟩ = some (u111001) := (blk_cell BK110.out 1).trans rfl
                    have hcz107_2 : wr.cell? ⟨gb110, 2, none⟩ = some (u111002) := (blk_cell BK110.out 2).trans rfl
                    have hfz107_0 := blk_frozen BK110.out 0
                    have hfz107_1 := blk_frozen BK110.out 1
                    have hfz107_2 := blk_frozen BK110.out 2
                    have hcz108_0 : wr.cell? ⟨gb102, 0, none⟩ = some (.int .i8 0) := (blk_cell BK102.out 0).trans rfl
                    have hcz108_1 : wr.cell? ⟨gb102, 1, none⟩ = some (.slice none 0 0) := (blk_cell BK102.out 1).trans rfl
                    have hcz108_2 : wr.cell? ⟨gb102, 2, none⟩ = some (.slice none 0 0) := (blk_cell BK102.out 2).trans rfl
                    have hfz108_0 := blk_frozen BK102.out 0
                    have hfz108_1 := blk_frozen BK102.out 1
                    have hfz108_2 := blk_frozen BK102.out 2
                    obtain ⟨Ao109, co109, eo109⟩ := Kd.R_slice HO_111001.out
                    subst eo109
                    obtain ⟨Ao110, co110, eo110⟩ := Kd.R_slice HO_111002.out
                    subst eo110
                    go_wp2
                    refine bodyPost_ret (results_ct rfl _ _ gb102 30 #[.int .i8 a0_0, .slice Ao109 x111001_1.length co109, .slice Ao110 x111002_2.length co110] (0, 0) _ rfl (by (with_reducible repeat (first | refine blk_drewN ?_ _ | refine blk_drew ?_ | refine blk_alloc ?_ _)); refine blk_put (cs := #[.int .i8 a0_0, .slice Ao109 x111001_1.length co109, .slice none 0 0]) ?_ 2 _ rfl; (with_reducible repeat (first | refine blk_drewN ?_ _ | refine blk_drew ?_ | refine blk_alloc ?_ _)); refine blk_put (cs := #[.int .i8 a0_0, .slice none 0 0, .slice none 0 0]) ?_ 1 _ rfl; (with_reducible repeat (first | refine blk_drewN ?_ _ | refine blk_drew ?_ | refine blk_alloc ?_ _)); refine blk_put (cs := #[.int .i8 0, .slice none 0 0, .slice none 0 0]) ?_ 0 _ rfl; (with_reducible repeat (first | refine blk_drewN ?_ _ | refine blk_drew ?_ | refine blk_alloc ?_ _)); exact BK102.out) Try.underlying30 rfl (by kernel_rfl)) rfl ?_
                    exact ⟨_, _, by first | rfl | (simp [errW_none, errW_some] <;> rfl) | (simp [*, errW_none, errW_some] <;> rfl), by (with_reducible repeat (first | apply Kd.R_alloc | apply Kd.R_drewN | apply Kd.R_drew)); exact Kd.R_mono (Kd.R_far (p := ⟨gb102, 2, none⟩) (Kd.R_far (p := ⟨gb102, 1, none⟩) (Kd.R_far (p := ⟨gb102, 0, none⟩) (Kd.R_types HO_111001.out BK102.out (by decide)) (fun _ hk => hk.2) (.int .i8 a0_0)) (fun _ hk => hk.2) (.slice Ao109 x111001_1.length co109)) (fun _ hk => hk.2) (.slice Ao110 x111002_2.length co110)) (fun _ hk => trivial), by (with_reducible repeat (first | apply Kd.R_alloc | apply Kd.R_drewN | apply Kd.R_drew)); exact Kd.R_mono (Kd.R_far (p := ⟨gb102, 2, none⟩) (Kd.R_far (p := ⟨gb102, 1, none⟩) (Kd.R_far (p := ⟨gb102, 0, none⟩) (Kd.R_types HO_111002.out BK102.out (by decide)) (fun _ hk => hk.2) (.int .i8 a0_0)) (fun _ hk => hk.2) (.slice Ao109 x111001_1.length co109)) (fun _ hk => hk.2) (.slice Ao110 x111002_2.length co110)) (fun _ hk => trivial), by repeat (first | (with_reducible first | exact HB.out | apply below_alloc | apply pw_below_drewN | apply below_drew1 | refine below_set ?_ GE101.out | refine below_set ?_ GE102.out | refine below_set ?_ GE110.out) | exact HB.out)⟩
      · rw [if_neg c6] at H
        exact absurd H (by simp)
    · rw [if_neg c5] at H
      exact absurd H (by simp)
  · replace c3 := Bool.eq_false_iff.mpr c3
    subst c3
    have H1 : (some (0, ([] : List (S68)), ([] : List Int), 1)) = some (r1, r2, r3, r4) := by rw [if_neg (show ¬ (false = true) by decide)] at H; exact H
    clear H
    have H := H1
    clear H1
    simp only [Option.some.injEq, Prod.mk.injEq] at H
    obtain ⟨rfl, rfl, rfl, rfl⟩ := H
    go_enter Try.func18, Try.ntmps18
    go_wp2_with (first | ((with_reducible refine gate_dst (N := 1) rfl ?_); refine box_event ?hg (N := 1) ?hd (cs := #[.int .i8 a0_0, .slice A0_1 l0_1.length c0_1, .slice A0_2 l0_2.length c0_2]) (t := 30) ?hr ?_; (case hd => rfl); (case hg => rfl); (case hr => first | (go_simp; done) | (go_simp; rfl)); intro gb101 hg w111 hbox hb; have n0_ := Aside0.mk (below_step (by repeat (first | (with_reducible first | exact HB.out | apply below_alloc | apply pw_below_drewN | apply below_drew1) | exact HB.out)) hb); have n1_ := Aside0.mk (hbox); have n2_ := Aside0.mk ((by rw [hg]; exact (below_size (by repeat (first | (with_reducible first | exact HB.out | apply below_alloc | apply pw_below_drewN | apply below_drew1) | exact HB.out))) : w.heap.size ≤ gb101)); have n3_ := Aside0.mk ((by rw [hg]; exact (below_size (by repeat (first | (with_reducible first | exact HB.out | apply below_alloc | apply pw_below_drewN | apply below_drew1) | exact HB.out))) : w.heap.size ≤ gb101)); clear HB; have HB := n0_; have BK101 := n1_; have GW101 := n2_; have GE101 := n3_; clear n0_ n1_ n2_ n3_; clear hb hbox hg) | ((with_reducible refine gate_dst (N := 2) rfl ?_); refine box_event ?hg (N := 2) ?hd (cs := #[.int .i8 0, .slice none 0 0, .slice none 0 0]) (t := 30) ?hr ?_; (case hd => rfl); (case hg => rfl); (case hr => first | (go_simp; done) | (go_simp; rfl)); intro gb102 hg w112 hbox hb; have n0_ := Aside0.mk (blk_below (g := gb101) (o := .cells #[.int .i8 a0_0, .slice A0_1 l0_1.length c0_1, .slice A0_2 l0_2.length c0_2] 30 (0, 0)) (by (with_reducible repeat (first | refine blk_drewN ?_ _ | refine blk_drew ?_ | refine blk_alloc ?_ _)); exact BK101.out) hb); have n1_ := Aside0.mk (below_step (by repeat (first | (with_reducible first | exact HB.out | apply below_alloc | apply pw_below_drewN | apply below_drew1 | refine below_set ?_ GE101.out) | exact HB.out)) hb); have n2_ := Aside0.mk (hbox); have n3_ := Aside0.mk ((by rw [hg]; exact (below_size (by repeat (first | (with_reducible first | exact HB.out | apply below_alloc | apply pw_below_drewN | apply below_drew1 | refine below_set ?_ GE101.out) | exact HB.out))) : w.heap.size ≤ gb102)); have n4_ := Aside0.mk ((by rw [hg]; exact (below_size (by repeat (first | (with_reducible first | exact HB.out | apply below_alloc | apply pw_below_drewN | apply below_drew1 | refine below_set ?_ GE101.out) | exact HB.out))) : w.heap.size ≤ gb102)); have n5_ := Aside0.mk ((by rw [hg]; exact Nat.ne_of_lt (blk_lt (g := gb101) (o := .cells #[.int .i8 a0_0, .slice A0_1 l0_1.length c0_1, .slice A0_2 l0_2.length c0_2] 30 (0, 0)) (by (with_reducible repeat (first | refine blk_drewN ?_ _ | refine blk_drew ?_ | refine blk_alloc ?_ _)); exact BK101.out)) : gb101 ≠ gb102)); have n6_ := Aside0.mk ((by rw [hg]; exact Nat.ne_of_gt (blk_lt (g := gb101) (o := .cells #[.int .i8 a0_0, .slice A0_1 l0_1.length c0_1, .slice A0_2 l0_2.length c0_2] 30 (0, 0)) (by (with_reducible repeat (first | refine blk_drewN ?_ _ | refine blk_drew ?_ | refine blk_alloc ?_ _)); exact BK101.out)) : gb102 ≠ gb101)); clear BK101; clear HB; have BK101 := n0_; have HB := n1_; have BK102 := n2_; have GW102 := n3_; have GE102 := n4_; have NB101_102 := n5_; have NB102_101 := n6_; clear n0_ n1_ n2_ n3_ n4_ n5_ n6_; clear hb hbox hg) | ((with_reducible refine gate_callee (f := 43) rfl ?_); refine goesL_ (some 10) rfl rfl Try.func43 (by kernel_rfl) rfl #[.pointer (some ⟨gb101, 0, none⟩)] rfl (by (try simp only [List.map_toArray, List.map_cons, List.map_nil]); first | done | rfl | (simp only [List.length_drop, List.length_take]; rfl)) ?_; (with_reducible refine (spec_l07Ok.calls k gb101 a0_0 A0_1 c0_1 l0_1 A0_2 c0_2 l0_2 false _ ?side1 ?side2 ?side3 ?side4 ?side5 A2.out).mono ?_); (case side1 => (with_reducible repeat (first | refine blk_drewN ?_ _ | refine blk_drew ?_ | refine blk_alloc ?_ _)); exact BK101.out); (case side2 => repeat (first | exact (Kd.C_below HR0_1.out HB.out) | (with_reducible refine Kd.C_alloc ?_ _) | (with_reducible refine Kd.C_drewN ?_ _) | (with_reducible refine Kd.C_drew ?_))); (case side3 => exact HC0_1.out); (case side4 => repeat (first | exact (Kd.C_below HR0_2.out HB.out) | (with_reducible refine Kd.C_alloc ?_ _) | (with_reducible refine Kd.C_drewN ?_ _) | (with_reducible refine Kd.C_drew ?_))); (case side5 => exact HC0_2.out); rintro e w113 ⟨rfl, hb⟩; refine ⟨_, rfl, ?_⟩; have n0_ := Aside0.mk (blk_below (g := gb101) (o := .cells #[.int .i8 a0_0, .slice A0_1 l0_1.length c0_1, .slice A0_2 l0_2.length c0_2] 30 (0, 0)) (by (with_reducible repeat (first | refine blk_drewN ?_ _ | refine blk_drew ?_ | refine blk_alloc ?_ _)); exact BK101.out) hb); have n1_ := Aside0.mk (blk_below (g := gb102) (o := .cells #[.int .i8 0, .slice none 0 0, .slice none 0 0] 30 (0, 0)) (by (with_reducible repeat (first | refine blk_drewN ?_ _ | refine blk_drew ?_ | refine blk_alloc ?_ _)); exact BK102.out) hb); have n2_ := Aside0.mk (below_step (by repeat (first | (with_reducible first | exact HB.out | apply below_alloc | apply pw_below_drewN | apply below_drew1 | refine below_set ?_ GE101.out | refine below_set ?_ GE102.out) | exact HB.out)) hb); clear BK101; clear BK102; clear HB; have BK101 := n0_; have BK102 := n1_; have HB := n2_; clear n0_ n1_ n2_; (try clear hb); (try clear hb2); (try clear hk); (try clear hi); have hnb114 := NB102_101.out; have hnc114 := NB101_102.out; have hcz115_0 : w113.cell? ⟨gb102, 0, none⟩ = some (.int .i8 0) := (blk_cell BK102.out 0).trans rfl; have hcz115_1 : w113.cell? ⟨gb102, 1, none⟩ = some (.slice none 0 0) := (blk_cell BK102.out 1).trans rfl; have hcz115_2 : w113.cell? ⟨gb102, 2, none⟩ = some (.slice none 0 0) := (blk_cell BK102.out 2).trans rfl; have hfz115_0 := blk_frozen BK102.out 0; have hfz115_1 := blk_frozen BK102.out 1; have hfz115_2 := blk_frozen BK102.out 2))
    refine bodyPost_ret (results_ct rfl _ _ gb102 30 #[.int .i8 0, .slice none 0 0, .slice none 0 0] (0, 0) _ rfl (by (with_reducible repeat (first | refine blk_drewN ?_ _ | refine blk_drew ?_ | refine blk_alloc ?_ _)); refine blk_put (cs := #[.int .i8 0, .slice none 0 0, .slice none 0 0]) ?_ 2 _ rfl; (with_reducible repeat (first | refine blk_drewN ?_ _ | refine blk_drew ?_ | refine blk_alloc ?_ _)); refine blk_put (cs := #[.int .i8 0, .slice none 0 0, .slice none 0 0]) ?_ 1 _ rfl; (with_reducible repeat (first | refine blk_drewN ?_ _ | refine blk_drew ?_ | refine blk_alloc ?_ _)); refine blk_put (cs := #[.int .i8 0, .slice none 0 0, .slice none 0 0]) ?_ 0 _ rfl; (with_reducible repeat (first | refine blk_drewN ?_ _ | refine blk_drew ?_ | refine blk_alloc ?_ _)); exact BK102.out) Try.underlying30 rfl (by kernel_rfl)) rfl ?_
    exact ⟨_, _, by first | rfl | (simp [errW_none, errW_some] <;> rfl) | (simp [*, errW_none, errW_some] <;> rfl), by first | exact Kd.R_nil _ _ _ _ _ | exact Kd.N_nil _ _ _ _ _ | exact Kd.V_nil _ _ _ _ _ | exact Kd.Q_nil _ _ _ _ _ | exact Kd.S_nil _ _ _ _ _, by first | exact Kd.R_nil _ _ _ _ _ | exact Kd.N_nil _ _ _ _ _ | exact Kd.V_nil _ _ _ _ _ | exact Kd.Q_nil _ _ _ _ _ | exact Kd.S_nil _ _ _ _ _, by repeat (first | (with_reducible first | exact HB.out | apply below_alloc | apply pw_below_drewN | apply below_drew1 | refine below_set ?_ GE101.out | refine below_set ?_ GE102.out) | exact HB.out)⟩
end Go.Proofs.Yteanndgkjoinmaa.X

namespace Go.Proofs.Yteanndgkjoinmaa.X
open Go.RowKit Go.Proofs.YteanndgkjoinmaaW.PrintWords Go.Proofs.YteanndgkjoinmaaW.PrintLast Go.Proofs.YteanndgkjoinmaaW.PrintMore
set_option linter.unusedVariables false
set_option linter.unusedSimpArgs false
theorem heap_size_setCell (w : World) (p : Addr) (u : Value) : (w.setCell p u).heap.size = w.heap.size := by simp [World.setCell]
set_option maxHeartbeats 8000000 in
set_option maxRecDepth 100000 in
theorem add_calls (gp : Nat) (a0 : Int) (u1 u2 : Value) (lg : List S68) (y0 y1 y2 : Int) (ok : Nat → Prop) (w0 w : World) (hB : Below w0.heap.size w0 w) (hgp : w0.heap.size ≤ gp) (hbk : w.heap[gp]? = some (.cells #[.int .i8 a0, u1, u2] 30 (0, 0))) (hr : Kd.R k68 68 w w0.heap.size ok u1 lg) (hfresh : ∀ k, w.heap.size ≤ k → ok k) (hl : lg.length < 23456248059221) :
    Calls Try.prog 60 #[.pointer (some ⟨gp, 0, none⟩), .agg #[.int .i8 y0, .int .i16 y1, .int .i16 y2]] w fun e w' => ∃ u1', e = .returned (.int .i16 (IntKind.i16.wrap lg.length)) ∧ Kd.R k68 68 w' w0.heap.size ok u1' (lg ++ [⟨y0, y1, y2⟩]) ∧ w'.heap[gp]? = some (.cells #[.int .i8 a0, u1', u2] 30 (0, 0)) ∧ Below w0.heap.size w0 w' ∧ w.heap.size ≤ w'.heap.size ∧ (∀ i, i < w.heap.size → i ≠ gp → some i ≠ u1.ownBlock → w'.heap[i]? = w.heap[i]?) ∧ (u1'.ownBlock = u1.ownBlock ∨ ∃ b, u1'.ownBlock = some b ∧ w.heap.size ≤ b) := by
  have hu30 := Try.underlying30
  have hu68 := Try.underlying68
  have HB := Aside0.mk hB
  have HG := Aside0.mk hgp
  have BK := Aside0.mk hbk
  have HR := Aside0.mk hr
  have HF := Aside0.mk hfresh
  have HL := Aside0.mk hl
  have HW := Aside0.mk (Below.refl w.heap.size w)
  clear hB hgp hbk hr hfresh hl
  obtain ⟨A9, c9, e9⟩ := Kd.R_slice HR.out
  subst e9
  go_enter Try.func60, Try.ntmps60
  go_wp2_with (first | ((with_reducible refine gate_dst (N := 3) rfl ?_); refine box_event ?hg (N := 3) ?hd (cs := #[.int .i8 y0, .int .i16 y1, .int .i16 y2]) (t := 68) ?hr ?_; (case hd => rfl); (case hg => rfl); (case hr => first | (go_simp; done) | (go_simp; rfl)); intro gb hg w1 hbox hb; have BG := Aside0.mk hbox; have HW1 := Aside0.mk hb; have HB1 := Aside0.mk (below_step HB.out hb); have BK1 := Aside0.mk (blk_below (g := gp) (o := .cells #[.int .i8 a0, .slice A9 lg.length c9, u2] 30 (0, 0)) BK.out hb); have HR1 := Aside0.mk (Kd.R_below HR.out hb); clear hb hbox; have HGE := Aside0.mk hg; clear hg))
  refine start_ (n := 11) (S := fun w' => w'.cell? ⟨gp, 0, none⟩ = some (.int .i8 a0) ∧ w'.cell? ⟨gp, 1, none⟩ = some (.slice A9 lg.length c9) ∧ w'.cell? ⟨gp, 2, none⟩ = some u2 ∧ w'.cell? ⟨gb, 0, none⟩ = some (.int .i8 y0) ∧ w'.cell? ⟨gb, 1, none⟩ = some (.int .i16 y1) ∧ w'.cell? ⟨gb, 2, none⟩ = some (.int .i16 y2)) (ds := [7, 10]) #[false, false, false, false, false, false, false, false, false, false, false] (by kernel_rfl) rfl rfl ⟨(blk_cell BK1.out 0).trans rfl, (blk_cell BK1.out 1).trans rfl, (blk_cell BK1.out 2).trans rfl, (blk_cell BG.out 0).trans rfl, (blk_cell BG.out 1).trans rfl, (blk_cell BG.out 2).trans rfl⟩ (fun hHeld => ?_)
  have HWd := Aside0.mk (Below.drew HW1.out)
  have HBd := Aside0.mk (Below.drew HB1.out)
  have BKd := Aside0.mk (show w1.drew.heap[gp]? = _ from BK1.out)
  have BGd := Aside0.mk (show w1.drew.heap[gb]? = _ from BG.out)
  have HRd := Aside0.mk (Kd.R_drew HR1.out)
  clear HW1 HB1 BK1 BG HR1
  generalize w1.drew = w2 at HWd HBd BKd BGd HRd hHeld ⊢
  refine pure_ (i := 0) (N := some 5) (v := ?_) (a' := ?_) #[true, false, false, false, false, false, false, false, false, false, false] rfl rfl (by kernel_rfl) (fun _ _ _ h => h) (Or.inl ⟨by rfl, ?_⟩) ?_ ?_
  rotate_left
  · intro w'
    go_simp
    with_reducible rfl
  rotate_left
  · simp only [Act.put, List.setIfInBounds_toArray, List.set_cons_zero, List.set_cons_succ, i64_w, i32_w]
    rfl
  refine pure_ (i := 1) (N := some 6) (v := ?_) (a' := ?_) #[true, true, false, false, false, false, false, false, false, false, false] rfl rfl (by kernel_rfl) (fun _ _ _ h => h) (Or.inl ⟨by rfl, ?_⟩) ?_ ?_
  rotate_left
  · intro w'
    go_simp
    with_reducible rfl
  rotate_left
  · simp only [Act.put, List.setIfInBounds_toArray, List.set_cons_zero, List.set_cons_succ, i64_w, i32_w]
    rfl
  refine pure_ (i := 2) (N := some 7) (v := ?_) (a' := ?_) #[true, true, true, false, false, false, false, false, false, false, false] rfl rfl (by kernel_rfl) (fun _ _ _ h => h) (Or.inl ⟨by rfl, ?_⟩) ?_ ?_
  rotate_left
  · intro w'
    go_simp
    with_reducible rfl
  rotate_left
  · simp only [Act.put, List.setIfInBounds_toArray, List.set_cons_zero, List.set_cons_succ, i64_w, i32_w]
    rfl
  refine pure_ (i := 3) (N := some 8) (v := ?_) (a' := ?_) #[true, true, true, true, false, false, false, false, false, false, false] rfl rfl (by kernel_rfl) (fun _ _ _ h => h) (Or.inl ⟨by rfl, ?_⟩) ?_ ?_
  rotate_left
  · intro w'
    go_simp
    with_reducible rfl
  rotate_left
  · simp only [Act.put, List.setIfInBounds_toArray, List.set_cons_zero, List.set_cons_succ, i64_w, i32_w]
    rfl
  refine take_ (i := 4) (N := some 9) (v := ?_) (a' := ?_) #[true, true, true, true, true, false, false, false, false, false, false] rfl rfl (by kernel_rfl) (fun _ _ _ h => h) (Or.inl ⟨by rfl, ?_⟩) hHeld ?_ ?_
  rotate_left
  · rintro w' ⟨s0, s1, s2, s3, s4, s5⟩
    go_simp
    with_reducible rfl
  rotate_left
  · simp only [Act.put, List.setIfInBounds_toArray, List.set_cons_zero, List.set_cons_succ, i64_w, i32_w]
    rfl
  refine take_ (i := 5) (N := some 10) (v := ?_) (a' := ?_) #[true, true, true, true, true, true, false, false, false, false, false] rfl rfl (by kernel_rfl) (fun _ _ _ h => h) (Or.inl ⟨by rfl, ?_⟩) hHeld ?_ ?_
  rotate_left
  · rintro w' ⟨s0, s1, s2, s3, s4, s5⟩
    go_simp
    with_reducible rfl
  rotate_left
  · simp only [Act.put, List.setIfInBounds_toArray, List.set_cons_zero, List.set_cons_succ, i64_w, i32_w]
    rfl
  refine one_ (i := 6) (N := some 11) #[true, true, true, true, true, true, true, false, false, false, false] rfl rfl (by kernel_rfl) (by decide) (fun K hK => ?_)
  refine value_ (w1 := ?_) (v := ?_) (by rfl) rfl ?_ ?_
  rotate_left 2
  · go_simp
    constructor
    · rfl
    · rfl
  refine hK.out _ _ ⟨(blk_cell (blk_alloc BKd.out _) 0).trans rfl, (blk_cell (blk_alloc BKd.out _) 1).trans rfl, (blk_cell (blk_alloc BKd.out _) 2).trans rfl, (blk_cell (blk_alloc BGd.out _) 0).trans rfl, (blk_cell (blk_alloc BGd.out _) 1).trans rfl, (blk_cell (blk_alloc BGd.out _) 2).trans rfl⟩ (fun hHeld => ?_)
  clear hK K
  refine norm_ (a' := ?_) ?_ ?_
  rotate_left
  · show Act.put _ (some 11) _ = _
    simp only [Act.put, List.setIfInBounds_toArray, List.set_cons_zero, List.set_cons_succ, i64_w, i32_w]
    rfl
  refine last_ (i := 7) (N := some 12) #[true, true, true, true, true, true, true, true, false, false, false] rfl rfl (by kernel_rfl) (by decide) (fun K hK => ?_)
  refine Kd.R_append_step k68 (w0 := w0) w0.heap.size (by rfl) (.tmp 9) (.tmp 11) 28 68 (.agg #[.int .i8 0, .int .i16 0, .int .i16 0]) 6 rfl Try.underlying28 info68 rfl (by decide) (by omega) (.slice A9 lg.length c9) lg ⟨y0, y1, y2⟩ [.int .i8 y0, .int .i16 y1, .int .i16 y2] ok (fun _ => False) rfl rfl ?aP (fun _ hk => hk.elim) ?aF ?aO ?aB ?aS ?aL ?_
  (case aP => exact k68_mkM _ _ _ _)
  (case aF => exact fun k hk => HF.out k (Nat.le_trans HWd.out.size hk))
  (case aO => exact HRd.out)
  (case aB => exact HBd.out)
  (case aS => exact HBd.out.size)
  (case aL => have := HL.out; omega)
  intro v1 w3 ho hb hg hat
  have hne := Kd.R_ne HRd.out BKd.out (by decide)
  have BK3 := Aside0.mk (blk_grown (g := gp) (o := .cells #[.int .i8 a0, .slice A9 lg.length c9, u2] 30 (0, 0)) BKd.out hg hne)
  have HO3 := Aside0.mk ho
  have HB3 := Aside0.mk hb
  have HG3 := Aside0.mk hg
  have HAT := Aside0.mk hat
  have HNE := Aside0.mk hne
  clear ho hb hg hat hne HRd BGd hHeld
  obtain ⟨A12, c12, e12⟩ := Kd.R_slice HO3.out
  subst e12
  have hs3 : w3.cell? ⟨gp, 1, none⟩ = some (.slice A9 lg.length c9) := (blk_cell BK3.out 1).trans rfl
  have hf3 := blk_frozen BK3.out 1
  refine hK.out _ _ ?_
  clear hK K
  refine norm_ (a' := ?_) ?_ ?_
  rotate_left
  · show Act.put _ (some 12) _ = _
    simp only [Act.put, List.setIfInBounds_toArray, List.set_cons_zero, List.set_cons_succ, i64_w, i32_w]
    rfl
  refine pure_ (i := 8) (N := some 13) (v := ?_) (a' := ?_) #[true, true, true, true, true, true, true, true, true, false, false] rfl rfl (by kernel_rfl) (fun _ _ _ h => h) (Or.inl ⟨by rfl, ?_⟩) ?_ ?_
  rotate_left
  · intro w'
    go_simp
    with_reducible rfl
  rotate_left
  · simp only [Act.put, List.setIfInBounds_toArray, List.set_cons_zero, List.set_cons_succ, i64_w, i32_w]
    rfl
  refine pure_ (i := 9) (N := some 14) (v := ?_) (a' := ?_) #[true, true, true, true, true, true, true, true, true, true, false] rfl rfl (by kernel_rfl) (fun _ _ _ h => h) (Or.inl ⟨by rfl, ?_⟩) ?_ ?_
  rotate_left
  · intro w'
    go_simp
    with_reducible rfl
  rotate_left
  · simp only [Act.put, List.setIfInBounds_toArray, List.set_cons_zero, List.set_cons_succ, i64_w, i32_w]
    rfl
  refine last_ (i := 10) (N := none) #[true, true, true, true, true, true, true, true, true, true, true] rfl rfl (by kernel_rfl) (by decide) (fun K hK => ?_)
  refine skip_ (w1 := ?_) (by rfl) rfl ?_ ?_
  rotate_left
  · go_simp
    rfl
  refine hK.out _ _ ?_
  clear hK K
  refine done_ (by kernel_rfl) ?_

  go_wp2
  go_ret
  have e1 : wrap64 (lg.length : Int) = lg.length := by have := HL.out; unfold wrap64; omega
  have HO4 := HO3.out
  have HAT4 := HAT.out
  have hlen : (lg ++ [(⟨y0, y1, y2⟩ : S68)]).length = lg.length + 1 := by simp
  rw [hlen] at HO4 HAT4
  refine ⟨.slice A12 (lg.length + 1) c12, congrArg (fun z => Ending.returned (.int .i16 (IntKind.i16.wrap z))) e1, Kd.R_set HO4 BK3.out (by decide) 1 _, blk_put BK3.out 1 _ rfl, below_set HB3.out HG.out, ?_, ?_, ?_⟩
  · rw [heap_size_setCell]; exact Nat.le_trans HWd.out.size HG3.out.size
  · intro i hi hg hne
    rw [Below.heap_setCell _ _ _ _ hg]
    exact (HG3.out.block i (Nat.lt_of_lt_of_le hi HWd.out.size) hne).trans (HWd.out.block i hi)
  · rcases HAT4 with h | ⟨b, h1, h2⟩
    · exact .inl h
    · exact .inr ⟨b, h1, Nat.le_trans HWd.out.size h2⟩
end Go.Proofs.Yteanndgkjoinmaa.X

namespace Go.Proofs.Yteanndgkjoinmaa.X
open Go.RowKit Go.Proofs.YteanndgkjoinmaaW.PrintWords Go.Proofs.YteanndgkjoinmaaW.PrintLast Go.Proofs.YteanndgkjoinmaaW.PrintMore
set_option linter.unusedVariables false
set_option linter.unusedSimpArgs false
set_option maxHeartbeats 8000000 in
set_option maxRecDepth 100000 in
theorem trimKeep_calls (gn : Nat) (An : Option Addr) (cn : Nat) (nd : List Bool) (i : Nat) (gp : Nat) (a0 : Int) (u1 u2 : Value) (lg : List S68) (y0 y1 y2 : Int) (ok : Nat → Prop) (w0 w : World) (hB : Below w0.heap.size w0 w) (hgp : w0.heap.size ≤ gp) (hbk : w.heap[gp]? = some (.cells #[.int .i8 a0, u1, u2] 30 (0, 0))) (hr : Kd.R k68 68 w w0.heap.size ok u1 lg) (hfresh : ∀ k, w.heap.size ≤ k → ok k) (hl : lg.length < 23456248059221)
    (hn : w.heap[gn]? = some (.cells #[.slice An nd.length cn] 81 (0, 0))) (hnr : Kd.C Kd.bool w An nd.length nd) (hi : i < nd.length) :
    Calls Try.prog 63 #[.pointer (some ⟨gp, 0, none⟩), .int .i64 i, .agg #[.int .i8 y0, .int .i16 y1, .int .i16 y2], .pointer (some ⟨gn, 0, none⟩)] w fun e w' => ∃ u1', e = .returned (.int .i16 (if rdOf false nd i = true then IntKind.i16.wrap lg.length else 0)) ∧ Kd.R k68 68 w' w0.heap.size ok u1' (if rdOf false nd i = true then lg ++ [⟨y0, y1, y2⟩] else lg) ∧ w'.heap[gp]? = some (.cells #[.int .i8 a0, u1', u2] 30 (0, 0)) ∧ Below w0.heap.size w0 w' ∧ w.heap.size ≤ w'.heap.size ∧ (∀ i, i < w.heap.size → i ≠ gp → some i ≠ u1.ownBlock → w'.heap[i]? = w.heap[i]?) ∧ (u1'.ownBlock = u1.ownBlock ∨ ∃ b, u1'.ownBlock = some b ∧ w.heap.size ≤ b) := by
  have hu30 := Try.underlying30
  have hu68 := Try.underlying68
  obtain ⟨adn, en, hxn⟩ := Kd.at_bool hnr (i : Int) (by omega) (by omega)
  cases en
  simp only [Int.toNat_natCast] at hxn
  have HB := Aside0.mk hB
  have HG := Aside0.mk hgp
  have BK := Aside0.mk hbk
  have HR := Aside0.mk hr
  have HF := Aside0.mk hfresh
  have HL := Aside0.mk hl
  have BN := Aside0.mk hn
  have HX := Aside0.mk hxn
  have p1 : (0 ≤ (i : Int)) = True := eq_true (by omega)
  have q1 : ((i : Int) < (nd.length : Int)) = True := eq_true (by omega)
  clear hB hgp hbk hr hfresh hl hn hnr hi hxn
  obtain ⟨bv, hbv⟩ : ∃ b : Bool, b = rdOf false nd i := ⟨_, rfl⟩
  have NB := Aside0.mk hbv
  clear hbv
  cases bv with
  | false =>
    rw [← NB.out]
    go_enter Try.func63, Try.ntmps63
    go_wp2_with (first | ((with_reducible refine gate_dst (N := 6) rfl ?_); refine box_event ?hg (N := 6) ?hd (cs := #[.int .i8 y0, .int .i16 y1, .int .i16 y2]) (t := 68) ?hr ?_; (case hd => rfl); (case hg => rfl); (case hr => first | (go_simp; done) | (go_simp; rfl)); intro gb hg w1 hbox hb; have HW1 := Aside0.mk hb; have HB1 := Aside0.mk (below_step HB.out hb); have BK1 := Aside0.mk (blk_below (g := gp) (o := .cells #[.int .i8 a0, u1, u2] 30 (0, 0)) BK.out hb); have HR1 := Aside0.mk (Kd.R_below HR.out hb); have hn1 : w1.cell? ⟨gn, 0, none⟩ = some (.slice (some adn) nd.length cn) := (blk_cell (blk_below BN.out hb) 0).trans rfl; have hx1 := (hb.cell (World.block_lt_of_cell? w _ HX.out)).trans HX.out; rw [← NB.out] at hx1; clear hb hbox hg))
    go_ret
    refine ⟨rfl, u1, HR1.out, BK1.out, HB1.out, HW1.out.size, fun i hi _ _ => HW1.out.block i hi, .inl rfl⟩
  | true =>
    rw [← NB.out]
    go_enter Try.func63, Try.ntmps63
    go_wp2_with (first | ((with_reducible refine gate_dst (N := 6) rfl ?_); refine box_event ?hg (N := 6) ?hd (cs := #[.int .i8 y0, .int .i16 y1, .int .i16 y2]) (t := 68) ?hr ?_; (case hd => rfl); (case hg => rfl); (case hr => first | (go_simp; done) | (go_simp; rfl)); intro gb hg w1 hbox hb; have HW1 := Aside0.mk hb; have HB1 := Aside0.mk (below_step HB.out hb); have BK1 := Aside0.mk (blk_below (g := gp) (o := .cells #[.int .i8 a0, u1, u2] 30 (0, 0)) BK.out hb); have HR1 := Aside0.mk (Kd.R_below HR.out hb); have hn1 : w1.cell? ⟨gn, 0, none⟩ = some (.slice (some adn) nd.length cn) := (blk_cell (blk_below BN.out hb) 0).trans rfl; have hx1 := (hb.cell (World.block_lt_of_cell? w _ HX.out)).trans HX.out; rw [← NB.out] at hx1; have hg0 : w1.cell? ⟨gb, 0, none⟩ = some (.int .i8 y0) := (blk_cell hbox 0).trans rfl; have hg1 : w1.cell? ⟨gb, 1, none⟩ = some (.int .i16 y1) := (blk_cell hbox 1).trans rfl; have hg2 : w1.cell? ⟨gb, 2, none⟩ = some (.int .i16 y2) := (blk_cell hbox 2).trans rfl; clear hb hbox hg) | (go_at_call 60; (with_reducible refine (add_calls gp a0 u1 u2 lg y0 y1 y2 ok w0 _ HB1.out HG.out BK1.out HR1.out (fun k hk => HF.out k (Nat.le_trans HW1.out.size hk)) HL.out).mono ?_); rintro e w2 ⟨u1', rfl, h1, h2, h3, h4, h5, h6⟩; have H1 := Aside0.mk h1; have H2 := Aside0.mk h2; have H3 := Aside0.mk h3; have H4 := Aside0.mk h4; have H5 := Aside0.mk h5; have H6 := Aside0.mk h6; clear h1 h2 h3 h4 h5 h6))
    go_ret
    refine ⟨rfl, u1', H1.out, H2.out, H3.out, Nat.le_trans HW1.out.size H4.out, fun i hi hg hne => (H5.out i (Nat.lt_of_lt_of_le hi HW1.out.size) hg hne).trans (HW1.out.block i hi), ?_⟩
    rcases H6.out with h | ⟨b, h1, h2⟩
    · exact .inl h
    · exact .inr ⟨b, h1, Nat.le_trans HW1.out.size h2⟩
end Go.Proofs.Yteanndgkjoinmaa.X

-- Laid by wip/xprint.py of this session (the kit's print program, with some contracts given by hand). Not trusted: Lean checks it.
namespace Go.Proofs.Yteanndgkjoinmaa.X
open Go.RowKit Go.Proofs.YteanndgkjoinmaaW.PrintWords Go.Proofs.YteanndgkjoinmaaW.PrintLast Go.Proofs.YteanndgkjoinmaaW.PrintMore
attribute [local go_sem] max2_int min2_int max_two min_two max_three min_three max_four min_four
set_option linter.unusedVariables false
set_option linter.unusedSimpArgs false
def impl_Gate_isPair.f (a0_0 : Int) (a0_1 : Int) (a0_2 : Int) : Option (Bool) := if a0_0 = 2 then (some true) else (some (a0_0 == 3))
set_option maxHeartbeats 8000000 in
set_option maxRecDepth 100000 in
theorem impl_Gate_isPair.calls (a0_0 : Int) (a0_1 : Int) (a0_2 : Int) (r : Bool) (w : World) (h : impl_Gate_isPair.f a0_0 a0_1 a0_2 = some r) :
    Calls Try.prog 49 #[.agg #[.int .i8 a0_0, .int .i16 a0_1, .int .i16 a0_2]] w fun e w' => e = .returned (.bool r) ∧ Below w.heap.size w w' := by
  have hu68 := Try.underlying68
  have HB := Aside0.mk (Below.refl w.heap.size w)
  have H : (if a0_0 = 2 then (some true) else (some (a0_0 == 3))) = some r := h
  clear h
  by_cases c2 : a0_0 = 2
  · rw [if_pos c2] at H
    have c2b0 : (a0_0 == 2) = true := beq_iff_eq.mpr c2
    have c2b1 : (a0_0 != 2) = false := bne_eq_false_iff_eq.mpr c2
    clear c2
    obtain rfl := Option.some.inj H
    go_enter Try.func49, Try.ntmps49
    go_wp2_with (first | ((with_reducible refine gate_dst (N := 1) rfl ?_); refine box_event ?hg (N := 1) ?hd (cs := #[.int .i8 a0_0, .int .i16 a0_1, .int .i16 a0_2]) (t := 68) ?hr ?_; (case hd => rfl); (case hg => rfl); (case hr => first | (go_simp; done) | (go_simp; rfl)); intro gb101 hg w3 hbox hb; have n0_ := Aside0.mk (below_step (by repeat (first | (with_reducible first | exact HB.out | apply below_alloc | apply pw_below_drewN | apply below_drew1) | exact HB.out)) hb); have n1_ := Aside0.mk (hbox); have n2_ := Aside0.mk ((by rw [hg]; exact (below_size (by repeat (first | (with_reducible first | exact HB.out | apply below_alloc | apply pw_below_drewN | apply below_drew1) | exact HB.out))) : w.heap.size ≤ gb101)); have n3_ := Aside0.mk ((by rw [hg]; exact (below_size (by repeat (first | (with_reducible first | exact HB.out | apply below_alloc | apply pw_below_drewN | apply below_drew1) | exact HB.out))) : w.heap.size ≤ gb101)); clear HB; have HB := n0_; have BK101 := n1_; have GW101 := n2_; have GE101 := n3_; clear n0_ n1_ n2_ n3_; clear hb hbox hg; have hcz4_0 : w3.cell? ⟨gb101, 0, none⟩ = some (.int .i8 a0_0) := (blk_cell BK101.out 0).trans rfl; have hcz4_1 : w3.cell? ⟨gb101, 1, none⟩ = some (.int .i16 a0_1) := (blk_cell BK101.out 1).trans rfl; have hcz4_2 : w3.cell? ⟨gb101, 2, none⟩ = some (.int .i16 a0_2) := (blk_cell BK101.out 2).trans rfl; have hfz4_0 := blk_frozen BK101.out 0; have hfz4_1 := blk_frozen BK101.out 1; have hfz4_2 := blk_frozen BK101.out 2))
    go_ret
    exact ⟨by first | rfl | (simp [errW_none, errW_some] <;> rfl) | (simp [*, errW_none, errW_some] <;> rfl), by repeat (first | (with_reducible first | exact HB.out | apply below_alloc | apply pw_below_drewN | apply below_drew1 | refine below_set ?_ GE101.out) | exact HB.out)⟩
  · rw [if_neg c2] at H
    have c2b0 : (a0_0 == 2) = false := beq_eq_false_iff_ne.mpr c2
    have c2b1 : (a0_0 != 2) = true := bne_iff_ne.mpr c2
    obtain rfl := Option.some.inj H
    go_enter Try.func49, Try.ntmps49
    go_wp2_with (first | ((with_reducible refine gate_dst (N := 1) rfl ?_); refine box_event ?hg (N := 1) ?hd (cs := #[.int .i8 a0_0, .int .i16 a0_1, .int .i16 a0_2]) (t := 68) ?hr ?_; (case hd => rfl); (case hg => rfl); (case hr => first | (go_simp; done) | (go_simp; rfl)); intro gb101 hg w5 hbox hb; have n0_ := Aside0.mk (below_step (by repeat (first | (with_reducible first | exact HB.out | apply below_alloc | apply pw_below_drewN | apply below_drew1) | exact HB.out)) hb); have n1_ := Aside0.mk (hbox); have n2_ := Aside0.mk ((by rw [hg]; exact (below_size (by repeat (first | (with_reducible first | exact HB.out | apply below_alloc | apply pw_below_drewN | apply below_drew1) | exact HB.out))) : w.heap.size ≤ gb101)); have n3_ := Aside0.mk ((by rw [hg]; exact (below_size (by repeat (first | (with_reducible first | exact HB.out | apply below_alloc | apply pw_below_drewN | apply below_drew1) | exact HB.out))) : w.heap.size ≤ gb101)); clear HB; have HB := n0_; have BK101 := n1_; have GW101 := n2_; have GE101 := n3_; clear n0_ n1_ n2_ n3_; clear hb hbox hg; have hcz6_0 : w5.cell? ⟨gb101, 0, none⟩ = some (.int .i8 a0_0) := (blk_cell BK101.out 0).trans rfl; have hcz6_1 : w5.cell? ⟨gb101, 1, none⟩ = some (.int .i16 a0_1) := (blk_cell BK101.out 1).trans rfl; have hcz6_2 : w5.cell? ⟨gb101, 2, none⟩ = some (.int .i16 a0_2) := (blk_cell BK101.out 2).trans rfl; have hfz6_0 := blk_frozen BK101.out 0; have hfz6_1 := blk_frozen BK101.out 1; have hfz6_2 := blk_frozen BK101.out 2))
    go_ret
    exact ⟨by first | rfl | (simp [errW_none, errW_some] <;> rfl) | (simp [*, errW_none, errW_some] <;> rfl), by repeat (first | (with_reducible first | exact HB.out | apply below_alloc | apply pw_below_drewN | apply below_drew1 | refine below_set ?_ GE101.out) | exact HB.out)⟩
end Go.Proofs.Yteanndgkjoinmaa.X

namespace Go.Proofs.Yteanndgkjoinmaa.X
open Go.RowKit Go.Proofs.YteanndgkjoinmaaW.PrintWords Go.Proofs.YteanndgkjoinmaaW.PrintLast Go.Proofs.YteanndgkjoinmaaW.PrintMore
set_option linter.unusedVariables false
set_option linter.unusedSimpArgs false
def renL (step : Nat → S68 → List S68 → Int × List S68) : List S68 → Nat → List Int → List S68 → List Int × List S68
  | [], _, pl, og => (pl, og)
  | g :: rest, i, pl, og =>
    renL step rest (i + 1) (pl ++ [(step i (if g.f0 = 2 ∨ g.f0 = 3 then ⟨g.f0, rd pl g.f1, rd pl g.f2⟩ else g) og).1]) (step i (if g.f0 = 2 ∨ g.f0 = 3 then ⟨g.f0, rd pl g.f1, rd pl g.f2⟩ else g) og).2
def KeepSpec (g : Nat) (lb : Array Value) (N0 n : Nat) (a0 : Int) (w0 : World) (Cst : World → List S68 → Prop) (step : Nat → S68 → List S68 → Int × List S68) (Sc : Nat → Prop) : Prop :=
  ∀ (i : Nat) (y0 y1 y2 : Int) (gp : Nat) (u1 u2 : Value) (lg : List S68) (W : World), i < n → lg.length ≤ i → N0 ≤ gp → Below w0.heap.size w0 W → W.heap[gp]? = some (.cells #[.int .i8 a0, u1, u2] 30 (0, 0)) → Kd.R k68 68 W w0.heap.size (fun k => N0 ≤ k) u1 lg → N0 ≤ W.heap.size → Cst W lg →
    Calls Try.prog g (#[.pointer (some ⟨gp, 0, none⟩), .int .i64 i, .agg #[.int .i8 y0, .int .i16 y1, .int .i16 y2]] ++ lb) W fun e w' => e = .returned (.int .i16 (step i ⟨y0, y1, y2⟩ lg).1) ∧ ∃ u1', Kd.R k68 68 w' w0.heap.size (fun k => N0 ≤ k) u1' (step i ⟨y0, y1, y2⟩ lg).2 ∧ w'.heap[gp]? = some (.cells #[.int .i8 a0, u1', u2] 30 (0, 0)) ∧ Below w0.heap.size w0 w' ∧ W.heap.size ≤ w'.heap.size ∧ Cst w' (step i ⟨y0, y1, y2⟩ lg).2 ∧ (∀ j, j < W.heap.size → (N0 ≤ j ∨ ¬ Sc j) → j ≠ gp → some j ≠ u1.ownBlock → w'.heap[j]? = W.heap[j]?)
theorem keep_beside {g : Nat} {lb : Array Value} {N0 n : Nat} {a0 : Int} {w0 : World} {Cst : World → List S68 → Prop} {step : Nat → S68 → List S68 → Int × List S68} {Sc : Nat → Prop} {b : Nat} {o : Obj} (h : KeepSpec g lb N0 n a0 w0 Cst step Sc) (hb : b < N0) (hs : ¬ Sc b) : KeepSpec g lb N0 n a0 w0 (fun W og => Cst W og ∧ W.heap[b]? = some o) step Sc := by
  intro i y0 y1 y2 gp u1 u2 lg W hi hl hgp hB hbk hr hz hc
  refine (h i y0 y1 y2 gp u1 u2 lg W hi hl hgp hB hbk hr hz hc.1).mono ?_
  rintro e w' ⟨he, u1', h1, h2, h3, h4, h5, h6⟩
  exact ⟨he, u1', h1, h2, h3, h4, ⟨h5, (h6 b (blk_lt hc.2) (.inr hs) (by omega) (fun he => by have := hr.1 b he.symm; omega)).trans hc.2⟩, h6⟩
theorem keep_row {W w' : World} {N0 gp b : Nat} {ok ok1 : Nat → Prop} {v u1 : Value} {xs : List Int} {q : IntKind} {lg : List S68} {cs : Array Value} (h : Kd.R (Kd.int q) 66 W N0 ok v xs) (hgp : W.heap[gp]? = some (.cells cs 30 (0, 0))) (hu : Kd.R k68 68 W b ok1 u1 lg) (hk : ∀ j, j < W.heap.size → N0 ≤ j → j ≠ gp → some j ≠ u1.ownBlock → w'.heap[j]? = W.heap[j]?) : Kd.R (Kd.int q) 66 w' N0 ok v xs := by
  refine Kd.R_mono (Kd.R_move (Kd.R_bound h) (fun k hk2 => ?_)) (fun _ hk => hk.1)
  obtain ⟨_, h1, h2, t, ht, cells, hc⟩ := hk2
  have ht' : t = 66 := by simpa [Kd.int, Kd.scalar] using ht
  subst ht'
  refine hk k h2 h1 ?_ ?_
  · rintro rfl; rw [hgp] at hc; cases hc
  · intro he
    obtain ⟨cells', hc'⟩ := Kd.R_typed hu k he.symm
    rw [hc'] at hc; cases hc
theorem keep_blk {W w' : World} {N0 gp b g : Nat} {ok1 : Nat → Prop} {u1 : Value} {lg : List S68} {cs : Array Value} (h : W.heap[g]? = some (.cells cs 30 (0, 0))) (hg : N0 ≤ g) (hne : g ≠ gp) (hu : Kd.R k68 68 W b ok1 u1 lg) (hk : ∀ j, j < W.heap.size → N0 ≤ j → j ≠ gp → some j ≠ u1.ownBlock → w'.heap[j]? = W.heap[j]?) : w'.heap[g]? = some (.cells cs 30 (0, 0)) := by
  rw [hk g (blk_lt h) hg hne ?_]
  · exact h
  · intro he
    obtain ⟨cells', hc'⟩ := Kd.R_typed hu g he.symm
    rw [hc'] at h; cases h
theorem below_up {w0 w1 w2 : World} {N0 : Nat} (h : Below w0.heap.size w0 w1) (hn : w0.heap.size ≤ N0) (k : Below N0 w1 w2) : Below w0.heap.size w0 w2 := h.trans (k.mono hn)
structure Fr (gb2 gb4 gb5 g8 : Nat) (b2 b4 b5 : Array Value) (w0 w wr : World) (vP u1 : Value) (pl : List Int) (ol : List S68) (W : World) : Prop where
  op : Kd.R (Kd.int .i16) 66 W w.heap.size (fun _ => True) vP pl
  og : Kd.R k68 68 W w0.heap.size (fun k => w.heap.size ≤ k ∧ k ≠ g8) u1 ol
  b2 : W.heap[gb2]? = some (.cells b2 30 (0, 0))
  b4 : W.heap[gb4]? = some (.cells b4 30 (0, 0))
  b5 : W.heap[gb5]? = some (.cells b5 30 (0, 0))
  hb : Below w0.heap.size w0 W
  hz : w.heap.size ≤ W.heap.size
  hn : Below w.heap.size wr W
section
variable {gb2 gb4 gb5 g8 : Nat} {b2 b4 b5 cs : Array Value} {w0 w wr W W' : World} {vP u1 : Value} {pl : List Int} {ol : List S68}
theorem Fr.below (h : Fr gb2 gb4 gb5 g8 b2 b4 b5 w0 w wr vP u1 pl ol W) (k : Below W.heap.size W W') : Fr gb2 gb4 gb5 g8 b2 b4 b5 w0 w wr vP u1 pl ol W' :=
  ⟨Kd.R_below h.op k, Kd.R_below h.og k, blk_below h.b2 k, blk_below h.b4 k, blk_below h.b5 k, below_step h.hb k, Nat.le_trans h.hz k.size, h.hn.trans (k.mono h.hz)⟩
theorem Fr.set (h : Fr gb2 gb4 gb5 g8 b2 b4 b5 w0 w wr vP u1 pl ol W) (hg : W.heap[g8]? = some (.cells cs 68 (0, 0))) (h8 : w.heap.size ≤ g8) (hs : w0.heap.size ≤ w.heap.size) (n2 : gb2 ≠ g8) (n4 : gb4 ≠ g8) (n5 : gb5 ≠ g8) (j : Nat) (u : Value) : Fr gb2 gb4 gb5 g8 b2 b4 b5 w0 w wr vP u1 pl ol (W.setCell ⟨g8, j, none⟩ u) :=
  ⟨Kd.R_set h.op hg (by decide) j u, Kd.R_far (p := ⟨g8, j, none⟩) h.og (fun _ hk => hk.2) u, blk_far (p := ⟨g8, j, none⟩) h.b2 n2 u, blk_far (p := ⟨g8, j, none⟩) h.b4 n4 u, blk_far (p := ⟨g8, j, none⟩) h.b5 n5 u, below_set h.hb (Nat.le_trans hs h8), by rw [heap_size_setCell]; exact h.hz, h.hn.setCell (p := ⟨g8, j, none⟩) h8 u⟩
end
set_option maxHeartbeats 8000000 in
set_option maxRecDepth 100000 in
theorem ren_calls (step : Nat → S68 → List S68 → Int × List S68) (hlen : ∀ i y lg, lg.length ≤ i → (step i y lg).2.length ≤ i + 1) (g : Nat) (lb : Array Value) (eg : ∀ (xs : Array Value) (W : World), (callFunc g xs).run Try.prog W = .ok (.enter g xs) W) (a0 : Int) (A1 : Option Addr) (c1 : Nat) (l1 : List S68) (A2 : Option Addr) (c2 : Nat) (l2 : List Int) (w0 w : World) (hB : Below w0.heap.size w0 w)
    (hr1 : Kd.C k68 w0 A1 l1.length l1) (hr2 : Kd.C (Kd.int .i16) w0 A2 l2.length l2) (Cst : World → List S68 → Prop) (hst : ∀ W W' og, Cst W og → Below w.heap.size W W' → Cst W' og) (h0 : Cst w []) (Sc : Nat → Prop) (hk : KeepSpec g lb w.heap.size l1.length a0 w0 Cst step Sc) (hn : l1.length ≤ 600) (hm : l2.length ≤ 16)
    (hv : ∀ (i : Nat) x, l1[i]? = some x → (x.f0 = 2 ∨ x.f0 = 3) → 0 ≤ x.f1 ∧ x.f1 < i ∧ 0 ≤ x.f2 ∧ x.f2 < i) (ho : ∀ (j : Nat) x, l2[j]? = some x → 0 ≤ x ∧ x < l1.length) :
    Calls Try.prog 58 #[.agg #[.int .i8 a0, .slice A1 l1.length c1, .slice A2 l2.length c2], .func (.func g) #[] lb] w fun e w' => ∃ v1 v2, e = .returned (.agg #[.int .i8 a0, v1, v2]) ∧ Kd.R k68 68 w' w0.heap.size (fun _ => True) v1 (renL step l1 0 [] []).2 ∧ Kd.R (Kd.int .i16) 66 w' w0.heap.size (fun _ => True) v2 (l2.map fun o => rd (renL step l1 0 [] []).1 o) ∧ Below w0.heap.size w0 w' ∧ Cst w' (renL step l1 0 [] []).2 := by
  have hu30 := Try.underlying30
  have hu68 := Try.underlying68
  obtain ⟨RR, hRR⟩ : ∃ RR, RR = renL step l1 0 [] [] := ⟨_, rfl⟩
  rw [← hRR]
  have HRR := Aside0.mk hRR
  have HLEN := Aside0.mk hlen
  have HB := Aside0.mk hB
  have HS := Aside0.mk hB.size
  have HR1 := Aside0.mk hr1
  have HR2 := Aside0.mk hr2
  have HST := Aside0.mk hst
  have HC := Aside0.mk h0
  have HK := Aside0.mk hk
  have HN := Aside0.mk hn
  have HM := Aside0.mk hm
  have HV := Aside0.mk hv
  have HO := Aside0.mk ho
  have HW := Aside0.mk (Below.refl w.heap.size w)
  clear hRR hlen hB hr1 hr2 hst h0 hk hn hm hv ho
  go_enter Try.func58, Try.ntmps58
  go_wp2_with (first
    | ((with_reducible refine gate_dst (N := 2) rfl ?_); refine box_event ?hg (N := 2) ?hd (cs := #[.int .i8 a0, .slice A1 l1.length c1, .slice A2 l2.length c2]) (t := 30) ?hr ?_; (case hd => rfl); (case hg => rfl); (case hr => first | (go_simp; done) | (go_simp; rfl)); intro gb2 hg w2 hbox hb; have HW2 := Aside0.mk hb; have BK2 := Aside0.mk hbox; have GE2 := Aside0.mk (show w.heap.size ≤ gb2 by rw [hg]; exact Nat.le_refl _); clear hb hbox hg; have hcz2_0 : w2.cell? ⟨gb2, 0, none⟩ = some (.int .i8 a0) := (blk_cell BK2.out 0).trans rfl; have hcz2_1 : w2.cell? ⟨gb2, 1, none⟩ = some (.slice A1 l1.length c1) := (blk_cell BK2.out 1).trans rfl)
    | ((with_reducible refine gate_dst (N := 4) rfl ?_); refine box_event ?hg (N := 4) ?hd (cs := #[.int .i8 0, .slice none 0 0, .slice none 0 0]) (t := 30) ?hr ?_; (case hd => rfl); (case hg => rfl); (case hr => first | (go_simp; done) | (go_simp; rfl)); intro gb4 hg w4 hbox hb; have HW4 := Aside0.mk (below_step HW2.out hb); have NB42 := Aside0.mk (show gb4 ≠ gb2 by rw [hg]; exact Nat.ne_of_gt (blk_lt BK2.out)); have BK2 := Aside0.mk (blk_below BK2.out hb); have BK4 := Aside0.mk hbox; have GE4 := Aside0.mk (show w.heap.size ≤ gb4 by rw [hg]; exact HW2.out.size); clear hb hbox hg; have hcz4_0 : w4.cell? ⟨gb2, 0, none⟩ = some (.int .i8 a0) := (blk_cell BK2.out 0).trans rfl; have hcz4_1 : w4.cell? ⟨gb2, 1, none⟩ = some (.slice A1 l1.length c1) := (blk_cell BK2.out 1).trans rfl)
    | ((with_reducible refine gate_dst (N := 14) rfl ?_); refine Kd.R_lit (Kd.int .i16) _ 66 ?hg (N := 14) ?hd (xs := ([] : List Int)) (inner := []) (ok := fun _ => True) (okp := fun _ => True) ?hr ?hp (fun _ hk => hk) trivial (Below.refl _ _) (Nat.le_refl _) (by simp) ?_; (case hd => rfl); (case hg => rfl); (case hr => first | (go_simp; done) | (go_simp; rfl)); (case hp => exact Reps.none _ _); intro v14 w14 ho14 hb hg_ hnew_; clear hg_ hnew_; have HP14 := Aside0.mk (Kd.R_lower ho14 HW4.out.size); have HW14 := Aside0.mk (below_step HW4.out hb); have BK2 := Aside0.mk (blk_below BK2.out hb); have BK4 := Aside0.mk (blk_below BK4.out hb); clear ho14 hb)
    | ((with_reducible refine gate_dst (N := 5) rfl ?_); refine box_event ?hg (N := 5) ?hd (cs := #[.int .i8 0, .slice none 0 0, .slice none 0 0]) (t := 30) ?hr ?_; (case hd => rfl); (case hg => rfl); (case hr => first | (go_simp; done) | (go_simp; rfl)); intro gb5 hg w5 hbox hb; have HW5 := Aside0.mk (below_step HW14.out hb); have NB52 := Aside0.mk (show gb5 ≠ gb2 by rw [hg]; exact Nat.ne_of_gt (blk_lt BK2.out)); have NB54 := Aside0.mk (show gb5 ≠ gb4 by rw [hg]; exact Nat.ne_of_gt (blk_lt BK4.out)); have BK2 := Aside0.mk (blk_below BK2.out hb); have BK4 := Aside0.mk (blk_below BK4.out hb); have BK5 := Aside0.mk hbox; have HP5 := Aside0.mk (Kd.R_below HP14.out hb); have GE5 := Aside0.mk (show w.heap.size ≤ gb5 by rw [hg]; exact HW14.out.size); clear hb hbox hg; have hcz5_0 : w5.cell? ⟨gb5, 0, none⟩ = some (.int .i8 0) := (blk_cell BK5.out 0).trans rfl; have hcz5_1 : w5.cell? ⟨gb5, 1, none⟩ = some (.slice none 0 0) := (blk_cell BK5.out 1).trans rfl; have hcz5_2 : w5.cell? ⟨gb5, 2, none⟩ = some (.slice none 0 0) := (blk_cell BK5.out 2).trans rfl; have hfz5_0 := blk_frozen BK5.out 0; have hfz5_1 := blk_frozen BK5.out 1; have hfz5_2 := blk_frozen BK5.out 2; have hnb5 := NB52.out; have hnc5 := NB52.out.symm; have hcy5_1 : w5.cell? ⟨gb2, 1, none⟩ = some (.slice A1 l1.length c1) := (blk_cell BK2.out 1).trans rfl))
  have e0 : (Kd.R k68 68 ((((w5.setCell ⟨gb5, 0, none⟩ (.int .i8 a0)).setCell ⟨gb5, 1, none⟩ (.slice none 0 0)).setCell ⟨gb5, 2, none⟩ (.slice none 0 0))) w0.heap.size (fun k => w.heap.size ≤ k) (.slice none 0 0) ([] : List S68)) := Kd.R_nil _ _ _ _ _
  have HE0 := Aside0.mk e0
  clear e0
  have HWs := Aside0.mk (show Below w.heap.size w ((((w5.setCell ⟨gb5, 0, none⟩ (.int .i8 a0)).setCell ⟨gb5, 1, none⟩ (.slice none 0 0)).setCell ⟨gb5, 2, none⟩ (.slice none 0 0))) from below_set (below_set (below_set HW5.out GE5.out) GE5.out) GE5.out)
  have HPs := Aside0.mk (Kd.R_set (Kd.R_set (Kd.R_set HP5.out BK5.out (by decide) 0 (.int .i8 a0)) (blk_put BK5.out 0 (.int .i8 a0) rfl) (by decide) 1 (.slice none 0 0)) (blk_put (blk_put BK5.out 0 (.int .i8 a0) rfl) 1 (.slice none 0 0) rfl) (by decide) 2 (.slice none 0 0))
  have BK5s := Aside0.mk (blk_put (blk_put (blk_put BK5.out 0 (.int .i8 a0) rfl) 1 (.slice none 0 0) rfl) 2 (.slice none 0 0) rfl)
  have BK2s := Aside0.mk (blk_far (p := ⟨gb5, 2, none⟩) (blk_far (p := ⟨gb5, 1, none⟩) (blk_far (p := ⟨gb5, 0, none⟩) BK2.out NB52.out.symm (.int .i8 a0)) NB52.out.symm (.slice none 0 0)) NB52.out.symm (.slice none 0 0))
  have BK4s := Aside0.mk (blk_far (p := ⟨gb5, 2, none⟩) (blk_far (p := ⟨gb5, 1, none⟩) (blk_far (p := ⟨gb5, 0, none⟩) BK4.out NB54.out.symm (.int .i8 a0)) NB54.out.symm (.slice none 0 0)) NB54.out.symm (.slice none 0 0))
  clear HP5 BK5 BK2 BK4 HW5 HW14 HW4 HW2 HP14 hcz5_0 hcz5_1 hcz5_2 hfz5_0 hfz5_1 hfz5_2 hnb5 hnc5 hcy5_1
  go_loopg [6, 18] l1.length (fun gq v6 v18 w' => ∃ (i : Nat) (pl : List Int) (og : List S68) (u1 : Value), v18 = .int .i64 i ∧ Aside0 (i ≤ l1.length) ∧ Aside0 (l1.length - i ≤ gq) ∧ Aside0 (renL step (l1.drop i) i pl og = RR) ∧ Aside0 (pl.length = i) ∧ Aside0 (og.length ≤ i) ∧ Aside0 (Kd.R (Kd.int .i16) 66 w' w.heap.size (fun _ => True) v6 pl) ∧ Aside0 (Kd.R k68 68 w' w0.heap.size (fun k => w.heap.size ≤ k) u1 og) ∧ Aside0 (w'.heap[gb2]? = some (.cells #[.int .i8 a0, .slice A1 l1.length c1, .slice A2 l2.length c2] 30 (0, 0))) ∧ Aside0 (w'.heap[gb4]? = some (.cells #[.int .i8 0, .slice none 0 0, .slice none 0 0] 30 (0, 0))) ∧ Aside0 (w'.heap[gb5]? = some (.cells #[.int .i8 a0, u1, .slice none 0 0] 30 (0, 0))) ∧ Aside0 (Below w0.heap.size w0 w') ∧ Aside0 (w.heap.size ≤ w'.heap.size) ∧ Aside0 (Cst w' og))
  case atStart =>
    exact ⟨0, [], [], .slice none 0 0, rfl, ⟨Nat.zero_le _⟩, ⟨by omega⟩, ⟨HRR.out.symm⟩, ⟨rfl⟩, ⟨Nat.le_refl _⟩, HPs, HE0, BK2s, BK4s, BK5s, ⟨below_up HB.out HS.out HWs.out⟩, ⟨HWs.out.size⟩, ⟨HST.out _ _ _ HC.out HWs.out⟩⟩
  case round =>
    clear HPs HE0 BK2s BK4s BK5s HWs HC HB HW
    obtain ⟨i, pl, og, u1, rfl, HI, HG, HA, HPL, HOG, HOp, HOg, BK2, BK4, BK5, HB, HZ, HC⟩ := hrel
    have hi := HI.out
    by_cases hlt : i < l1.length
    · have hltz : (i : Int) < (l1.length : Int) := by omega
      obtain ⟨x, hx⟩ : ∃ x, l1[i]? = some x := ⟨l1[i], List.getElem?_eq_getElem hlt⟩
      have hrd : rd_T68 l1 (i : Int) = x := by simp [rd_T68, List.getD_eq_getElem?_getD, hx]
      have hdrop : l1.drop i = x :: l1.drop (i + 1) := by
        rw [List.drop_eq_getElem_cons hlt]
        have := List.getElem?_eq_getElem hlt
        rw [hx] at this
        cases this; rfl
      have ha := HA.out
      rw [hdrop] at ha
      obtain ⟨ad, ea, hx0, hx1, hx2⟩ := at_T68 HR1.out (i : Int) (by omega) (by omega)
      cases ea
      rw [hrd] at hx0 hx1 hx2
      replace hx0 := (HB.out.cell (World.block_lt_of_cell? w0 _ hx0)).trans hx0
      replace hx1 := (HB.out.cell (World.block_lt_of_cell? w0 _ hx1)).trans hx1
      replace hx2 := (HB.out.cell (World.block_lt_of_cell? w0 _ hx2)).trans hx2
      simp only [Int.toNat_natCast] at hx0 hx1 hx2
      obtain ⟨x0, x1, x2⟩ := x
      simp only at hx0 hx1 hx2
      have HX := Aside0.mk hx
      have HA := Aside0.mk ha
      have HLT := Aside0.mk hlt
      clear hrd hdrop ha hx hi hlt
      obtain ⟨Ap, cp, ep⟩ := Kd.R_slice HOp.out
      subst ep
      have hgp : impl_Gate_isPair.f x0 x1 x2 = some (decide (x0 = 2 ∨ x0 = 3)) := by
        unfold impl_Gate_isPair.f
        by_cases h2 : x0 = 2
        · simp [h2]
        · rw [if_neg h2]; by_cases h3 : x0 = 3 <;> simp [h2, h3]
      by_cases hpair : x0 = 2 ∨ x0 = 3
      · rw [decide_eq_true hpair] at hgp
        have HGP := Aside0.mk hgp
        have hv_ := HV.out i ⟨x0, x1, x2⟩ HX.out hpair
        have ha := HA.out
        rw [renL] at ha
        simp only [if_pos hpair] at ha
        have pl_ := HPL.out
        obtain ⟨adp, eap, hp1⟩ := Kd.at_int (Kd.R_reads' HOp.out).2.2 x1 (by simpa using hv_.1) (by have := hv_.2.1; simp only at this; omega)
        cases eap
        have HP1 := Aside0.mk hv_.1
        have HP2 := Aside0.mk (show x1 < (pl.length : Int) by have := hv_.2.1; simp only at this; omega)
        have HP3 := Aside0.mk hv_.2.2.1
        have HP4 := Aside0.mk (show x2 < (pl.length : Int) by have := hv_.2.2.2; simp only at this; omega)
        have HA0 := Aside0.mk ha
        clear HA hgp hpair hv_ pl_ hp1 ha
        go_wp2_with (first
          | ((with_reducible refine gate_dst (N := 8) rfl ?_); refine box_event ?hg (N := 8) ?hd (cs := #[.int .i8 0, .int .i16 0, .int .i16 0]) (t := 68) ?hr ?_; (case hd => rfl); (case hg => rfl); (case hr => first | (go_simp; done) | (go_simp; rfl)); intro gb8 hg w8 hbox hb; have GE8 := Aside0.mk (show w.heap.size ≤ gb8 by rw [hg]; exact HZ.out); have N2 := Aside0.mk (show gb2 ≠ gb8 by rw [hg]; exact Nat.ne_of_lt (blk_lt BK2.out)); have N4 := Aside0.mk (show gb4 ≠ gb8 by rw [hg]; exact Nat.ne_of_lt (blk_lt BK4.out)); have N5 := Aside0.mk (show gb5 ≠ gb8 by rw [hg]; exact Nat.ne_of_lt (blk_lt BK5.out)); have F0 : Fr gb2 gb4 gb5 gb8 _ _ _ w0 w wr (.slice (some adp) pl.length cp) u1 pl og wr := ⟨HOp.out, Kd.R_elderB HOg.out gb8 (by rw [hg]; exact Nat.le_refl _), BK2.out, BK4.out, BK5.out, HB.out, HZ.out, Below.refl _ _⟩; have F8 := Aside0.mk (F0.below hb); have BK8 := Aside0.mk hbox; clear F0 hb hbox hg; have hcz8_0 : w8.cell? ⟨gb8, 0, none⟩ = some (.int .i8 0) := (blk_cell BK8.out 0).trans rfl; have hcz8_1 : w8.cell? ⟨gb8, 1, none⟩ = some (.int .i16 0) := (blk_cell BK8.out 1).trans rfl; have hcz8_2 : w8.cell? ⟨gb8, 2, none⟩ = some (.int .i16 0) := (blk_cell BK8.out 2).trans rfl; have hfz8_0 := blk_frozen BK8.out 0; have hfz8_1 := blk_frozen BK8.out 1; have hfz8_2 := blk_frozen BK8.out 2)
          | (go_at_call 49; (with_reducible refine (impl_Gate_isPair.calls x0 x1 x2 true _ HGP.out).mono ?_); rintro e w49 ⟨rfl, hb⟩; have F49 := Aside0.mk ((((F8.out.set BK8.out GE8.out HS.out N2.out N4.out N5.out 0 (.int .i8 x0)).set (blk_put BK8.out 0 (.int .i8 x0) rfl) GE8.out HS.out N2.out N4.out N5.out 1 (.int .i16 x1)).set (blk_put (blk_put BK8.out 0 (.int .i8 x0) rfl) 1 (.int .i16 x1) rfl) GE8.out HS.out N2.out N4.out N5.out 2 (.int .i16 x2)).below hb); have BK49 := Aside0.mk (blk_below (blk_put (blk_put (blk_put BK8.out 0 (.int .i8 x0) rfl) 1 (.int .i16 x1) rfl) 2 (.int .i16 x2) rfl) hb); clear hb F8 BK8 hcz8_0 hcz8_1 hcz8_2 hfz8_0 hfz8_1 hfz8_2; have hcx_0 : w49.cell? ⟨gb8, 0, none⟩ = some (.int .i8 x0) := (blk_cell BK49.out 0).trans rfl; have hcx_1 : w49.cell? ⟨gb8, 1, none⟩ = some (.int .i16 x1) := (blk_cell BK49.out 1).trans rfl; have hcx_2 : w49.cell? ⟨gb8, 2, none⟩ = some (.int .i16 x2) := (blk_cell BK49.out 2).trans rfl))
        have q1 := eq_true HP1.out
        have q2 := eq_true HP2.out
        have q3 := eq_true HP3.out
        have q4 := eq_true HP4.out
        try simp only at q1 q3
        refine start_ (n := 14) (S := fun w' => w'.cell? ⟨gb8, 2, none⟩ = some (.int .i16 x2) ∧ w'.cell? (adp.add x1.toNat) = some (.int .i16 (rd pl x1)) ∧ w'.cell? (adp.add x2.toNat) = some (.int .i16 (rd pl x2))) (ds := [13]) #[false, false, false, false, false, false, false, false, false, false, false, false, false, false] (by kernel_rfl) rfl rfl ⟨(blk_cell BK49.out 2).trans rfl, (by obtain ⟨a_, e_, h_⟩ := Kd.at_int (Kd.R_reads' F49.out.op).2.2 x1 HP1.out HP2.out; cases e_; exact h_), (by obtain ⟨a_, e_, h_⟩ := Kd.at_int (Kd.R_reads' F49.out.op).2.2 x2 HP3.out HP4.out; cases e_; exact h_)⟩ (fun hHeld => ?_)
        clear hcx_0 hcx_1 hcx_2
        have FD := Aside0.mk (F49.out.below (Below.drew (Below.refl _ _)))
        have BKD := Aside0.mk (show w49.drew.heap[gb8]? = _ from BK49.out)
        clear F49 BK49
        generalize w49.drew = wd at FD BKD hHeld ⊢
        have hcd_1 : wd.cell? ⟨gb8, 1, none⟩ = some (.int .i16 x1) := (blk_cell BKD.out 1).trans rfl
        have hcd_2 : wd.cell? ⟨gb8, 2, none⟩ = some (.int .i16 x2) := (blk_cell BKD.out 2).trans rfl
        have hfd_1 := blk_frozen BKD.out 1
        have hfd_2 := blk_frozen BKD.out 2
        have hnp := Aside0.mk (show adp.block ≠ gb8 from Kd.own_blk (Kd.R_ne FD.out.op BKD.out (by decide)))
        have HD := Aside0.mk hHeld
        refine pure_ (i := 0) (N := some 25) (v := ?_) (a' := ?_) #[true, false, false, false, false, false, false, false, false, false, false, false, false, false] rfl rfl (by kernel_rfl) (fun _ _ _ h => h) (Or.inl ⟨by rfl, ?_⟩) ?_ ?_
        rotate_left
        · intro w'
          go_simp
          with_reducible rfl
        rotate_left
        · simp only [Act.put, List.setIfInBounds_toArray, List.set_cons_zero, List.set_cons_succ, i64_w, i32_w]
          rfl
        refine pure_ (i := 1) (N := some 26) (v := ?_) (a' := ?_) #[true, true, false, false, false, false, false, false, false, false, false, false, false, false] rfl rfl (by kernel_rfl) (fun _ _ _ h => h) (Or.inl ⟨by rfl, ?_⟩) ?_ ?_
        rotate_left
        · intro w'
          go_simp
          with_reducible rfl
        rotate_left
        · simp only [Act.put, List.setIfInBounds_toArray, List.set_cons_zero, List.set_cons_succ, i64_w, i32_w]
          rfl
        refine pure_ (i := 5) (N := some 30) (v := ?_) (a' := ?_) #[true, true, false, false, false, true, false, false, false, false, false, false, false, false] rfl rfl (by kernel_rfl) (fun _ _ _ h => h) (Or.inl ⟨by rfl, ?_⟩) ?_ ?_
        rotate_left
        · intro w'
          go_simp
          with_reducible rfl
        rotate_left
        · simp only [Act.put, List.setIfInBounds_toArray, List.set_cons_zero, List.set_cons_succ, i64_w, i32_w]
          rfl
        refine pure_ (i := 6) (N := some 31) (v := ?_) (a' := ?_) #[true, true, false, false, false, true, true, false, false, false, false, false, false, false] rfl rfl (by kernel_rfl) (fun _ _ _ h => h) (Or.inl ⟨by rfl, ?_⟩) ?_ ?_
        rotate_left
        · intro w'
          go_simp
          with_reducible rfl
        rotate_left
        · simp only [Act.put, List.setIfInBounds_toArray, List.set_cons_zero, List.set_cons_succ, i64_w, i32_w]
          rfl
        refine take_ (i := 7) (N := some 32) (v := ?_) (a' := ?_) #[true, true, false, false, false, true, true, true, false, false, false, false, false, false] rfl rfl (by kernel_rfl) (fun _ _ _ h => h) (Or.inl ⟨by rfl, ?_⟩) hHeld ?_ ?_
        rotate_left
        · rintro w' ⟨s0, s1, s2⟩
          go_simp
          with_reducible rfl
        rotate_left
        · simp only [Act.put, List.setIfInBounds_toArray, List.set_cons_zero, List.set_cons_succ, i64_w, i32_w]
          rfl
        refine pure_ (i := 8) (N := some 33) (v := ?_) (a' := ?_) #[true, true, false, false, false, true, true, true, true, false, false, false, false, false] rfl rfl (by kernel_rfl) (fun _ _ _ h => h) (Or.inl ⟨by rfl, ?_⟩) ?_ ?_
        rotate_left
        · intro w'
          go_simp
          with_reducible rfl
        rotate_left
        · simp only [Act.put, List.setIfInBounds_toArray, List.set_cons_zero, List.set_cons_succ, i64_w, i32_w]
          rfl
        refine take_ (i := 9) (N := some 34) (v := ?_) (a' := ?_) #[true, true, false, false, false, true, true, true, true, true, false, false, false, false] rfl rfl (by kernel_rfl) (fun _ _ _ h => h) (Or.inl ⟨by rfl, ?_⟩) hHeld ?_ ?_
        rotate_left
        · rintro w' ⟨s0, s1, s2⟩
          go_simp
          with_reducible rfl
        rotate_left
        · simp only [Act.put, List.setIfInBounds_toArray, List.set_cons_zero, List.set_cons_succ, i64_w, i32_w]
          rfl
        refine one_ (i := 2) (N := some 27) #[true, true, true, false, false, true, true, true, true, true, false, false, false, false] rfl rfl (by kernel_rfl) (by decide) (fun K hK => ?_)
        refine value_ (w1 := ?_) (v := ?_) (by rfl) rfl ?_ ?_
        rotate_left 2
        · go_simp
          constructor
          · rfl
          · rfl
        refine hK.out _ _ ⟨HD.out.1, HD.out.2.1, HD.out.2.2⟩ (fun hHeld => ?_)
        clear hK K
        refine norm_ (a' := ?_) ?_ ?_
        rotate_left
        · show Act.put _ (some 27) _ = _
          simp only [Act.put, List.setIfInBounds_toArray, List.set_cons_zero, List.set_cons_succ, i64_w, i32_w]
          rfl
        refine pure_ (i := 3) (N := some 28) (v := ?_) (a' := ?_) #[true, true, true, true, false, true, true, true, true, true, false, false, false, false] rfl rfl (by kernel_rfl) (fun _ _ _ h => h) (Or.inl ⟨by rfl, ?_⟩) ?_ ?_
        rotate_left
        · intro w'
          go_simp
          with_reducible rfl
        rotate_left
        · simp only [Act.put, List.setIfInBounds_toArray, List.set_cons_zero, List.set_cons_succ, i64_w, i32_w]
          rfl
        refine take_ (i := 4) (N := some 29) (v := ?_) (a' := ?_) #[true, true, true, true, true, true, true, true, true, true, false, false, false, false] rfl rfl (by kernel_rfl) (fun _ _ _ h => h) (Or.inl ⟨by rfl, ?_⟩) hHeld ?_ ?_
        rotate_left
        · rintro w' ⟨s0, s1, s2⟩
          go_simp
          with_reducible rfl
        rotate_left
        · simp only [Act.put, List.setIfInBounds_toArray, List.set_cons_zero, List.set_cons_succ, i64_w, i32_w]
          rfl
        refine pure_ (i := 10) (N := some 35) (v := ?_) (a' := ?_) #[true, true, true, true, true, true, true, true, true, true, true, false, false, false] rfl rfl (by kernel_rfl) (fun _ _ _ h => h) (Or.inl ⟨by rfl, ?_⟩) ?_ ?_
        rotate_left
        · intro w'
          go_simp
          with_reducible rfl
        rotate_left
        · simp only [Act.put, List.setIfInBounds_toArray, List.set_cons_zero, List.set_cons_succ, i64_w, i32_w]
          rfl
        refine one_ (i := 11) (N := none) #[true, true, true, true, true, true, true, true, true, true, true, true, false, false] rfl rfl (by kernel_rfl) (by decide) (fun K hK => ?_)
        refine skip_ (w1 := ?_) (by rfl) rfl ?_ ?_
        rotate_left
        · go_simp
          rfl
        refine hK.out _ _ ⟨(blk_cell (blk_put BKD.out 1 (.int .i16 (rd pl x1)) rfl) 2).trans rfl, (cell_far (p := ⟨gb8, 1, none⟩) (by rw [add_block]; exact hnp.out) _).trans HD.out.2.1, (cell_far (p := ⟨gb8, 1, none⟩) (by rw [add_block]; exact hnp.out) _).trans HD.out.2.2⟩ (fun hHeld => ?_)
        clear hK K
        refine pure_ (i := 12) (N := some 36) (v := ?_) (a' := ?_) #[true, true, true, true, true, true, true, true, true, true, true, true, true, false] rfl rfl (by kernel_rfl) (fun _ _ _ h => h) (Or.inl ⟨by rfl, ?_⟩) ?_ ?_
        rotate_left
        · intro w'
          go_simp
          with_reducible rfl
        rotate_left
        · simp only [Act.put, List.setIfInBounds_toArray, List.set_cons_zero, List.set_cons_succ, i64_w, i32_w]
          rfl
        refine last_ (i := 13) (N := none) #[true, true, true, true, true, true, true, true, true, true, true, true, true, true] rfl rfl (by kernel_rfl) (by decide) (fun K hK => ?_)
        refine skip_ (w1 := ?_) (by rfl) rfl ?_ ?_
        rotate_left
        · go_simp
          rfl
        refine hK.out _ _ ?_
        clear hK K
        refine done_ (by kernel_rfl) ?_

        have H6 := Aside0.mk ((FD.out.set BKD.out GE8.out HS.out N2.out N4.out N5.out 1 (.int .i16 (rd pl x1))).set (blk_put BKD.out 1 (.int .i16 (rd pl x1)) rfl) GE8.out HS.out N2.out N4.out N5.out 2 (.int .i16 (rd pl x2)))
        have BK86 := Aside0.mk (blk_put (blk_put BKD.out 1 (.int .i16 (rd pl x1)) rfl) 2 (.int .i16 (rd pl x2)) rfl)
        clear FD BKD HD hcd_1 hcd_2 hfd_1 hfd_2 hnp
        generalize (wd.setCell ⟨gb8, 1, none⟩ (.int .i16 (rd pl x1))).setCell ⟨gb8, 2, none⟩ (.int .i16 (rd pl x2)) = w6 at H6 BK86 ⊢
        have ha := HA0.out
        clear HA0
        generalize hst_ : step i ⟨x0, rd pl x1, rd pl x2⟩ og = sr at ha
        have hl_ := HLEN.out i ⟨x0, rd pl x1, rd pl x2⟩ og HOG.out
        have KK0 := HK.out i (x0) (rd pl x1) (rd pl x2) gb5 u1 (.slice none 0 0) og w6 HLT.out HOG.out GE5.out H6.out.hb H6.out.b5 (Kd.R_mono H6.out.og (fun _ hk => hk.1)) H6.out.hz (HST.out _ _ _ HC.out H6.out.hn)
        rw [hst_] at KK0 hl_
        obtain ⟨p, lg'⟩ := sr
        simp only at KK0 ha hl_
        have KK := Aside0.mk KK0
        have HA := Aside0.mk ha
        have HLG := Aside0.mk hl_
        clear KK0 ha hl_ hst_
        have hcw_0 : w6.cell? ⟨gb8, 0, none⟩ = some (.int .i8 (x0)) := (blk_cell BK86.out 0).trans rfl
        have hcw_1 : w6.cell? ⟨gb8, 1, none⟩ = some (.int .i16 (rd pl x1)) := (blk_cell BK86.out 1).trans rfl
        have hcw_2 : w6.cell? ⟨gb8, 2, none⟩ = some (.int .i16 (rd pl x2)) := (blk_cell BK86.out 2).trans rfl
        go_wp2_with fail
        refine KK.out.mono ?_
        rintro e w7 ⟨rfl, u1', k1, k2, k3, k4, k5, k6⟩
        have HOg7 := Aside0.mk k1
        have HOp7 := Aside0.mk (keep_row H6.out.op H6.out.b5 H6.out.og (fun j a b => k6 j a (.inl b)))
        have BK27 := Aside0.mk (keep_blk H6.out.b2 GE2.out NB52.out.symm H6.out.og (fun j a b => k6 j a (.inl b)))
        have BK47 := Aside0.mk (keep_blk H6.out.b4 GE4.out NB54.out.symm H6.out.og (fun j a b => k6 j a (.inl b)))
        have BK57 := Aside0.mk k2
        have HB7 := Aside0.mk k3
        have HZ7 := Aside0.mk (Nat.le_trans H6.out.hz k4)
        have HC7 := Aside0.mk k5
        clear k1 k2 k3 k4 k5 k6
        go_wp2_with ((with_reducible refine gate_builtin (b := .append) (xs := #[.tmp 37, .tmp 42]) rfl ?_); at_builtin; refine Kd.R_append (Kd.int .i16) (w0 := w7) w.heap.size rfl (.tmp 37) (.tmp 42) 24 66 (.int .i16 0) 2 rfl Try.underlying24 info66 rfl (by decide) (by omega) (.slice (some adp) pl.length cp) pl p [.int .i16 p] (fun _ => True) (fun _ => False) rfl rfl ?aP (fun _ hk => hk.elim) ?aF ?aO ?aB ?aS ?aL ?_; (case aP => exact rfl); (case aF => exact fun _ _ => trivial); (case aO => exact HOp7.out); (case aB => exact Below.refl _ _); (case aS => exact HZ7.out); (case aL => have := HPL.out; have := HLT.out; have := HN.out; omega); intro v9 w9 ho hb hg hat; have HO9 := Aside0.mk ho; have HN9 := Aside0.mk hb; have HOg9 := Aside0.mk (Kd.R_over' HOg7.out (Kd.R_typed HOp7.out) (by decide) hg); have BK2 := Aside0.mk (blk_grown BK27.out hg (Kd.R_ne HOp7.out BK27.out (by decide))); have BK4 := Aside0.mk (blk_grown BK47.out hg (Kd.R_ne HOp7.out BK47.out (by decide))); have BK5 := Aside0.mk (blk_grown BK57.out hg (Kd.R_ne HOp7.out BK57.out (by decide))); clear ho hb hg hat)
        go_roundg (l1.length - (i + 1))
        case measure => have := HG.out; have := HLT.out; omega
        case rel => have hn_ := HN.out; have hlt_ := HLT.out; exact ⟨i + 1, pl ++ [p], lg', u1', congrArg (Value.int .i64) (show wrap64 ((i : Int) + 1) = ((i + 1 : Nat) : Int) by unfold wrap64; omega), ⟨HLT.out⟩, ⟨by omega⟩, HA, ⟨by simp [HPL.out]⟩, HLG, HO9, HOg9, BK2, BK4, BK5, ⟨below_up HB7.out HS.out HN9.out⟩, ⟨Nat.le_trans HZ7.out HN9.out.size⟩, ⟨HST.out _ _ _ HC7.out HN9.out⟩⟩
      · rw [decide_eq_false hpair] at hgp
        have HGP := Aside0.mk hgp
        have ha := HA.out
        rw [renL] at ha
        simp only [if_neg hpair] at ha
        have HA0 := Aside0.mk ha
        clear HA hgp hpair ha
        go_wp2_with (first
          | ((with_reducible refine gate_dst (N := 8) rfl ?_); refine box_event ?hg (N := 8) ?hd (cs := #[.int .i8 0, .int .i16 0, .int .i16 0]) (t := 68) ?hr ?_; (case hd => rfl); (case hg => rfl); (case hr => first | (go_simp; done) | (go_simp; rfl)); intro gb8 hg w8 hbox hb; have GE8 := Aside0.mk (show w.heap.size ≤ gb8 by rw [hg]; exact HZ.out); have N2 := Aside0.mk (show gb2 ≠ gb8 by rw [hg]; exact Nat.ne_of_lt (blk_lt BK2.out)); have N4 := Aside0.mk (show gb4 ≠ gb8 by rw [hg]; exact Nat.ne_of_lt (blk_lt BK4.out)); have N5 := Aside0.mk (show gb5 ≠ gb8 by rw [hg]; exact Nat.ne_of_lt (blk_lt BK5.out)); have F0 : Fr gb2 gb4 gb5 gb8 _ _ _ w0 w wr (.slice Ap pl.length cp) u1 pl og wr := ⟨HOp.out, Kd.R_elderB HOg.out gb8 (by rw [hg]; exact Nat.le_refl _), BK2.out, BK4.out, BK5.out, HB.out, HZ.out, Below.refl _ _⟩; have F8 := Aside0.mk (F0.below hb); have BK8 := Aside0.mk hbox; clear F0 hb hbox hg; have hcz8_0 : w8.cell? ⟨gb8, 0, none⟩ = some (.int .i8 0) := (blk_cell BK8.out 0).trans rfl; have hcz8_1 : w8.cell? ⟨gb8, 1, none⟩ = some (.int .i16 0) := (blk_cell BK8.out 1).trans rfl; have hcz8_2 : w8.cell? ⟨gb8, 2, none⟩ = some (.int .i16 0) := (blk_cell BK8.out 2).trans rfl; have hfz8_0 := blk_frozen BK8.out 0; have hfz8_1 := blk_frozen BK8.out 1; have hfz8_2 := blk_frozen BK8.out 2)
          | (go_at_call 49; (with_reducible refine (impl_Gate_isPair.calls x0 x1 x2 false _ HGP.out).mono ?_); rintro e w49 ⟨rfl, hb⟩; have F49 := Aside0.mk ((((F8.out.set BK8.out GE8.out HS.out N2.out N4.out N5.out 0 (.int .i8 x0)).set (blk_put BK8.out 0 (.int .i8 x0) rfl) GE8.out HS.out N2.out N4.out N5.out 1 (.int .i16 x1)).set (blk_put (blk_put BK8.out 0 (.int .i8 x0) rfl) 1 (.int .i16 x1) rfl) GE8.out HS.out N2.out N4.out N5.out 2 (.int .i16 x2)).below hb); have BK49 := Aside0.mk (blk_below (blk_put (blk_put (blk_put BK8.out 0 (.int .i8 x0) rfl) 1 (.int .i16 x1) rfl) 2 (.int .i16 x2) rfl) hb); clear hb F8 BK8 hcz8_0 hcz8_1 hcz8_2 hfz8_0 hfz8_1 hfz8_2; have hcx_0 : w49.cell? ⟨gb8, 0, none⟩ = some (.int .i8 x0) := (blk_cell BK49.out 0).trans rfl; have hcx_1 : w49.cell? ⟨gb8, 1, none⟩ = some (.int .i16 x1) := (blk_cell BK49.out 1).trans rfl; have hcx_2 : w49.cell? ⟨gb8, 2, none⟩ = some (.int .i16 x2) := (blk_cell BK49.out 2).trans rfl))
        have H6 := F49
        have BK86 := BK49
        clear F49 BK49
        have ha := HA0.out
        clear HA0
        generalize hst_ : step i ⟨x0, x1, x2⟩ og = sr at ha
        have hl_ := HLEN.out i ⟨x0, x1, x2⟩ og HOG.out
        have KK0 := HK.out i (x0) (x1) (x2) gb5 u1 (.slice none 0 0) og w49 HLT.out HOG.out GE5.out H6.out.hb H6.out.b5 (Kd.R_mono H6.out.og (fun _ hk => hk.1)) H6.out.hz (HST.out _ _ _ HC.out H6.out.hn)
        rw [hst_] at KK0 hl_
        obtain ⟨p, lg'⟩ := sr
        simp only at KK0 ha hl_
        have KK := Aside0.mk KK0
        have HA := Aside0.mk ha
        have HLG := Aside0.mk hl_
        clear KK0 ha hl_ hst_
        have hcw_0 : w49.cell? ⟨gb8, 0, none⟩ = some (.int .i8 (x0)) := (blk_cell BK86.out 0).trans rfl
        have hcw_1 : w49.cell? ⟨gb8, 1, none⟩ = some (.int .i16 (x1)) := (blk_cell BK86.out 1).trans rfl
        have hcw_2 : w49.cell? ⟨gb8, 2, none⟩ = some (.int .i16 (x2)) := (blk_cell BK86.out 2).trans rfl
        go_wp2_with fail
        refine KK.out.mono ?_
        rintro e w7 ⟨rfl, u1', k1, k2, k3, k4, k5, k6⟩
        have HOg7 := Aside0.mk k1
        have HOp7 := Aside0.mk (keep_row H6.out.op H6.out.b5 H6.out.og (fun j a b => k6 j a (.inl b)))
        have BK27 := Aside0.mk (keep_blk H6.out.b2 GE2.out NB52.out.symm H6.out.og (fun j a b => k6 j a (.inl b)))
        have BK47 := Aside0.mk (keep_blk H6.out.b4 GE4.out NB54.out.symm H6.out.og (fun j a b => k6 j a (.inl b)))
        have BK57 := Aside0.mk k2
        have HB7 := Aside0.mk k3
        have HZ7 := Aside0.mk (Nat.le_trans H6.out.hz k4)
        have HC7 := Aside0.mk k5
        clear k1 k2 k3 k4 k5 k6
        go_wp2_with ((with_reducible refine gate_builtin (b := .append) (xs := #[.tmp 37, .tmp 42]) rfl ?_); at_builtin; refine Kd.R_append (Kd.int .i16) (w0 := w7) w.heap.size rfl (.tmp 37) (.tmp 42) 24 66 (.int .i16 0) 2 rfl Try.underlying24 info66 rfl (by decide) (by omega) (.slice Ap pl.length cp) pl p [.int .i16 p] (fun _ => True) (fun _ => False) rfl rfl ?aP (fun _ hk => hk.elim) ?aF ?aO ?aB ?aS ?aL ?_; (case aP => exact rfl); (case aF => exact fun _ _ => trivial); (case aO => exact HOp7.out); (case aB => exact Below.refl _ _); (case aS => exact HZ7.out); (case aL => have := HPL.out; have := HLT.out; have := HN.out; omega); intro v9 w9 ho hb hg hat; have HO9 := Aside0.mk ho; have HN9 := Aside0.mk hb; have HOg9 := Aside0.mk (Kd.R_over' HOg7.out (Kd.R_typed HOp7.out) (by decide) hg); have BK2 := Aside0.mk (blk_grown BK27.out hg (Kd.R_ne HOp7.out BK27.out (by decide))); have BK4 := Aside0.mk (blk_grown BK47.out hg (Kd.R_ne HOp7.out BK47.out (by decide))); have BK5 := Aside0.mk (blk_grown BK57.out hg (Kd.R_ne HOp7.out BK57.out (by decide))); clear ho hb hg hat)
        go_roundg (l1.length - (i + 1))
        case measure => have := HG.out; have := HLT.out; omega
        case rel => have hn_ := HN.out; have hlt_ := HLT.out; exact ⟨i + 1, pl ++ [p], lg', u1', congrArg (Value.int .i64) (show wrap64 ((i : Int) + 1) = ((i + 1 : Nat) : Int) by unfold wrap64; omega), ⟨HLT.out⟩, ⟨by omega⟩, HA, ⟨by simp [HPL.out]⟩, HLG, HO9, HOg9, BK2, BK4, BK5, ⟨below_up HB7.out HS.out HN9.out⟩, ⟨Nat.le_trans HZ7.out HN9.out.size⟩, ⟨HST.out _ _ _ HC7.out HN9.out⟩⟩
    · have e1 : i = l1.length := by omega
      have ha := HA.out
      rw [e1, List.drop_length, renL] at ha
      subst ha
      have hltz : ¬ (i : Int) < (l1.length : Int) := by omega
      obtain ⟨Ap, cp, ep⟩ := Kd.R_slice HOp.out
      subst ep
      have E1 := Aside0.mk e1
      have hcz2_2 : wr.cell? ⟨gb2, 2, none⟩ = some (.slice A2 l2.length c2) := (blk_cell BK2.out 2).trans rfl
      have HE2 := Aside0.mk (show Kd.R (Kd.int .i16) 66 wr w.heap.size (fun k => some k ≠ (Value.slice Ap pl.length cp).ownBlock) (.slice none 0 0) ([] : List Int) from Kd.R_nil _ _ _ _ _)
      clear e1 hi hlt HA
      go_wp2
      go_loopg [48] l2.length (fun gq v48 w' => ∃ (j : Nat) (ol : List Int) (u2 : Value), v48 = .int .i64 j ∧ Aside0 (j ≤ l2.length) ∧ Aside0 (l2.length - j ≤ gq) ∧ Aside0 (ol = (l2.take j).map (rd pl)) ∧ Aside0 (Kd.R (Kd.int .i16) 66 w' w.heap.size (fun k => some k ≠ u2.ownBlock) (.slice Ap pl.length cp) pl) ∧ Aside0 (Kd.R k68 68 w' w0.heap.size (fun k => w.heap.size ≤ k) u1 og) ∧ Aside0 (Kd.R (Kd.int .i16) 66 w' w.heap.size (fun k => some k ≠ (Value.slice Ap pl.length cp).ownBlock) u2 ol) ∧ Aside0 (w'.heap[gb2]? = some (.cells #[.int .i8 a0, .slice A1 l1.length c1, .slice A2 l2.length c2] 30 (0, 0))) ∧ Aside0 (w'.heap[gb4]? = some (.cells #[.int .i8 0, .slice none 0 0, .slice none 0 0] 30 (0, 0))) ∧ Aside0 (w'.heap[gb5]? = some (.cells #[.int .i8 a0, u1, u2] 30 (0, 0))) ∧ Aside0 (Below w0.heap.size w0 w') ∧ Aside0 (w.heap.size ≤ w'.heap.size) ∧ Aside0 (Cst w' og))
      case atStart =>
        exact ⟨0, [], .slice none 0 0, rfl, ⟨Nat.zero_le _⟩, ⟨by omega⟩, ⟨rfl⟩, ⟨Kd.R_mono HOp.out (fun k _ => by simp [Value.ownBlock])⟩, HOg, HE2, BK2, BK4, BK5, HB, HZ, HC⟩
      case round =>
        clear HOp HOg HE2 BK2 BK4 BK5 HB HZ HC hcz2_2 hltz HG
        obtain ⟨j, ol, u2, rfl, HJ, HG, HOL, HOp, HOg, HO2, BK2, BK4, BK5, HB, HZ, HC⟩ := hrel
        have hj := HJ.out
        by_cases hlt : j < l2.length
        · have hltz : (j : Int) < (l2.length : Int) := by omega
          obtain ⟨x, hx⟩ : ∃ x, l2[j]? = some x := ⟨l2[j], List.getElem?_eq_getElem hlt⟩
          have hrd : rd l2 (j : Int) = x := by simp [rd, List.getD_eq_getElem?_getD, hx]
          have ho_ := HO.out j x hx
          obtain ⟨ad, ea, hx0⟩ := Kd.at_int HR2.out (j : Int) (by omega) (by omega)
          cases ea
          rw [hrd] at hx0
          replace hx0 := (HB.out.cell (World.block_lt_of_cell? w0 _ hx0)).trans hx0
          simp only [Int.toNat_natCast] at hx0
          have hpl := HPL.out
          have he1 := E1.out
          have hpx : x < (pl.length : Int) := by omega
          obtain ⟨adp, eap, hp1⟩ := Kd.at_int (Kd.R_reads' HOp.out).2.2 x ho_.1 hpx
          cases eap
          have q1 := eq_true ho_.1
          have q2 := eq_true hpx
          have HX := Aside0.mk hx
          have HX1 := Aside0.mk ho_.1
          have HX2 := Aside0.mk hpx
          have HLT := Aside0.mk hlt
          have HHX := Aside0.mk hx0
          clear hrd hx ho_ hpl he1 hpx hp1 hj hlt
          go_wp2
          refine start_ (n := 10) (S := fun w' => w'.cell? ⟨gb5, 2, none⟩ = some u2 ∧ w'.cell? (adp.add x.toNat) = some (.int .i16 (rd pl x))) (ds := [7, 9]) #[false, false, false, false, false, false, false, false, false, false] (by kernel_rfl) rfl rfl ⟨(blk_cell BK5.out 2).trans rfl, (by obtain ⟨a_, e_, h_⟩ := Kd.at_int (Kd.R_reads' HOp.out).2.2 x HX1.out HX2.out; cases e_; exact h_)⟩ (fun hHeld => ?_)
          have HOp := Aside0.mk (Kd.R_drew HOp.out)
          have HOg := Aside0.mk (Kd.R_drew HOg.out)
          have HO2 := Aside0.mk (Kd.R_drew HO2.out)
          have BK2 := Aside0.mk (blk_drew BK2.out)
          have BK4 := Aside0.mk (blk_drew BK4.out)
          have BK5 := Aside0.mk (blk_drew BK5.out)
          have HB := Aside0.mk (below_drew1 HB.out)
          have HZ := Aside0.mk (show w.heap.size ≤ wr.drew.heap.size from HZ.out)
          have HC := Aside0.mk (HST.out _ wr.drew _ HC.out (Below.drew (Below.refl _ _)))
          clear hx0
          generalize wr.drew = wd at HOp HOg HO2 BK2 BK4 BK5 HB HZ HC hHeld ⊢
          have HD := Aside0.mk hHeld
          refine pure_ (i := 0) (N := some 52) (v := ?_) (a' := ?_) #[true, false, false, false, false, false, false, false, false, false] rfl rfl (by kernel_rfl) (fun _ _ _ h => h) (Or.inl ⟨by rfl, ?_⟩) ?_ ?_
          rotate_left
          · intro w'
            go_simp
            with_reducible rfl
          rotate_left
          · simp only [Act.put, List.setIfInBounds_toArray, List.set_cons_zero, List.set_cons_succ, i64_w, i32_w]
            rfl
          refine pure_ (i := 2) (N := some 54) (v := ?_) (a' := ?_) #[true, false, true, false, false, false, false, false, false, false] rfl rfl (by kernel_rfl) (fun _ _ _ h => h) (Or.inl ⟨by rfl, ?_⟩) ?_ ?_
          rotate_left
          · intro w'
            go_simp
            with_reducible rfl
          rotate_left
          · simp only [Act.put, List.setIfInBounds_toArray, List.set_cons_zero, List.set_cons_succ, i64_w, i32_w]
            rfl
          refine pure_ (i := 3) (N := some 55) (v := ?_) (a' := ?_) #[true, false, true, true, false, false, false, false, false, false] rfl rfl (by kernel_rfl) (fun _ _ _ h => h) (Or.inl ⟨by rfl, ?_⟩) ?_ ?_
          rotate_left
          · intro w'
            go_simp
            with_reducible rfl
          rotate_left
          · simp only [Act.put, List.setIfInBounds_toArray, List.set_cons_zero, List.set_cons_succ, i64_w, i32_w]
            rfl
          refine pure_ (i := 4) (N := some 56) (v := ?_) (a' := ?_) #[true, false, true, true, true, false, false, false, false, false] rfl rfl (by kernel_rfl) (fun _ _ _ h => h) (Or.inl ⟨by rfl, ?_⟩) ?_ ?_
          rotate_left
          · intro w'
            go_simp
            with_reducible rfl
          rotate_left
          · simp only [Act.put, List.setIfInBounds_toArray, List.set_cons_zero, List.set_cons_succ, i64_w, i32_w]
            rfl
          refine take_ (i := 1) (N := some 53) (v := ?_) (a' := ?_) #[true, true, true, true, true, false, false, false, false, false] rfl rfl (by kernel_rfl) (fun _ _ _ h => h) (Or.inl ⟨by rfl, ?_⟩) hHeld ?_ ?_
          rotate_left
          · rintro w' ⟨s0, s1⟩
            go_simp
            with_reducible rfl
          rotate_left
          · simp only [Act.put, List.setIfInBounds_toArray, List.set_cons_zero, List.set_cons_succ, i64_w, i32_w]
            rfl
          refine take_ (i := 5) (N := some 57) (v := ?_) (a' := ?_) #[true, true, true, true, true, true, false, false, false, false] rfl rfl (by kernel_rfl) (fun _ _ _ h => h) (Or.inl ⟨by rfl, ?_⟩) hHeld ?_ ?_
          rotate_left
          · rintro w' ⟨s0, s1⟩
            go_simp
            with_reducible rfl
          rotate_left
          · simp only [Act.put, List.setIfInBounds_toArray, List.set_cons_zero, List.set_cons_succ, i64_w, i32_w]
            rfl
          refine one_ (i := 6) (N := some 58) #[true, true, true, true, true, true, true, false, false, false] rfl rfl (by kernel_rfl) (by decide) (fun K hK => ?_)
          refine value_ (w1 := ?_) (v := ?_) (by rfl) rfl ?_ ?_
          rotate_left 2
          · go_simp
            constructor
            · rfl
            · rfl
          refine hK.out _ _ ⟨(blk_cell (blk_alloc BK5.out _) 2).trans rfl, (World.cell?_alloc_lt _ _ _ (World.block_lt_of_cell? _ _ HD.out.2)).trans HD.out.2⟩ (fun hHeld => ?_)
          clear hK K
          refine norm_ (a' := ?_) ?_ ?_
          rotate_left
          · show Act.put _ (some 58) _ = _
            simp only [Act.put, List.setIfInBounds_toArray, List.set_cons_zero, List.set_cons_succ, i64_w, i32_w]
            rfl
          refine last_ (i := 7) (N := some 59) #[true, true, true, true, true, true, true, true, false, false] rfl rfl (by kernel_rfl) (by decide) (fun K hK => ?_)
          refine Kd.R_append_step (Kd.int .i16) (w0 := wd) w.heap.size (by rfl) (.tmp 53) (.tmp 58) 24 66 (.int .i16 0) 2 rfl Try.underlying24 info66 rfl (by decide) (by omega) u2 ol (rd pl x) [.int .i16 (rd pl x)] (fun k => some k ≠ (Value.slice (some adp) pl.length cp).ownBlock) (fun _ => False) rfl rfl ?aP (fun _ hk => hk.elim) ?aF ?aO ?aB ?aS ?aL ?_
          (case aP => exact rfl)
          (case aF => exact (fun k_ hk => Kd.fresh' (Kd.R_lt HOp.out) k_ hk))
          (case aO => exact HO2.out)
          (case aB => exact Below.refl _ _)
          (case aS => exact HZ.out)
          (case aL => have h1 := HOL.out; have h2 := HM.out; have h3 := HLT.out; have h4 : ol.length ≤ j := (by rw [h1, List.length_map, List.length_take]; exact Nat.min_le_left _ _); omega)
          intro v3 w3 ho hb hg hat
          have HOp3 := Aside0.mk (Kd.R_after (ok := fun _ => True) (Kd.R_mono HOp.out (fun _ hk => ⟨trivial, hk⟩)) hg hat)
          have HOg3 := Aside0.mk (Kd.R_over' HOg.out (Kd.R_typed HO2.out) (by decide) hg)
          have HO23 := Aside0.mk ho
          have BK23 := Aside0.mk (blk_grown BK2.out hg (Kd.R_ne HO2.out BK2.out (by decide)))
          have BK43 := Aside0.mk (blk_grown BK4.out hg (Kd.R_ne HO2.out BK4.out (by decide)))
          have BK53 := Aside0.mk (blk_grown BK5.out hg (Kd.R_ne HO2.out BK5.out (by decide)))
          have HB3 := Aside0.mk (below_up HB.out HS.out hb)
          have HZ3 := Aside0.mk (Nat.le_trans HZ.out hb.size)
          have HC3 := Aside0.mk (HST.out _ _ _ HC.out hb)
          clear ho hb hg hat hHeld HOp HOg HO2 BK2 BK4 BK5 HB HZ HD HC
          obtain ⟨A3, c3, e3⟩ := Kd.R_slice HO23.out
          subst e3
          have hs3 : w3.cell? ⟨gb5, 2, none⟩ = some u2 := (blk_cell BK53.out 2).trans rfl
          have hf3 := blk_frozen BK53.out 2
          refine hK.out _ _ ?_
          clear hK K
          refine norm_ (a' := ?_) ?_ ?_
          rotate_left
          · show Act.put _ (some 59) _ = _
            simp only [Act.put, List.setIfInBounds_toArray, List.set_cons_zero, List.set_cons_succ, i64_w, i32_w]
            rfl
          refine pure_ (i := 8) (N := some 60) (v := ?_) (a' := ?_) #[true, true, true, true, true, true, true, true, true, false] rfl rfl (by kernel_rfl) (fun _ _ _ h => h) (Or.inl ⟨by rfl, ?_⟩) ?_ ?_
          rotate_left
          · intro w'
            go_simp
            with_reducible rfl
          rotate_left
          · simp only [Act.put, List.setIfInBounds_toArray, List.set_cons_zero, List.set_cons_succ, i64_w, i32_w]
            rfl
          refine last_ (i := 9) (N := none) #[true, true, true, true, true, true, true, true, true, true] rfl rfl (by kernel_rfl) (by decide) (fun K hK => ?_)
          refine skip_ (w1 := ?_) (by rfl) rfl ?_ ?_
          rotate_left
          · go_simp
            rfl
          refine hK.out _ _ ?_
          clear hK K
          refine done_ (by kernel_rfl) ?_

          go_wp2
          go_roundg (l2.length - (j + 1))
          case measure => have := HG.out; have := HLT.out; omega
          case rel =>
            have hm_ := HM.out
            have hlt_ := HLT.out
            have ht_ : (l2.take (j + 1)).map (rd pl) = ol ++ [rd pl x] := by
              rw [HOL.out, List.take_add_one, HX.out]; simp
            exact ⟨j + 1, ol ++ [rd pl x], _, congrArg (Value.int .i64) (show wrap64 ((j : Int) + 1) = ((j + 1 : Nat) : Int) by unfold wrap64; omega), ⟨HLT.out⟩, ⟨by omega⟩, ⟨ht_.symm⟩, ⟨Kd.R_mono (Kd.R_set HOp3.out BK53.out (by decide) 2 _) (fun _ hk => hk.2)⟩, ⟨Kd.R_set HOg3.out BK53.out (by decide) 2 _⟩, ⟨Kd.R_set HO23.out BK53.out (by decide) 2 _⟩, ⟨blk_far (p := ⟨gb5, 2, none⟩) BK23.out NB52.out.symm _⟩, ⟨blk_far (p := ⟨gb5, 2, none⟩) BK43.out NB54.out.symm _⟩, ⟨blk_put BK53.out 2 _ (by simp)⟩, ⟨below_set HB3.out (Nat.le_trans HS.out GE5.out)⟩, ⟨by rw [heap_size_setCell]; exact HZ3.out⟩, ⟨HST.out _ _ _ HC3.out ((Below.refl _ _).setCell (p := ⟨gb5, 2, none⟩) GE5.out _)⟩⟩
        · have e2 : j = l2.length := by omega
          have hltz : ¬ (j : Int) < (l2.length : Int) := by omega
          have hol : ol = l2.map (rd pl) := by rw [HOL.out, e2, List.take_length]
          have HOL2 := Aside0.mk hol
          clear hol e2 hj hlt
          obtain ⟨A3, c3, e3⟩ := Kd.R_slice HO2.out
          subst e3
          obtain ⟨A4, c4, e4⟩ := Kd.R_slice HOg.out
          subst e4
          have hcz5_0 : wr.cell? ⟨gb5, 0, none⟩ = some (.int .i8 a0) := (blk_cell BK5.out 0).trans rfl
          have hcz5_1 : wr.cell? ⟨gb5, 1, none⟩ = some (.slice A4 og.length c4) := (blk_cell BK5.out 1).trans rfl
          have hcz5_2 : wr.cell? ⟨gb5, 2, none⟩ = some (.slice A3 ol.length c3) := (blk_cell BK5.out 2).trans rfl
          have hcz4_0 : wr.cell? ⟨gb4, 0, none⟩ = some (.int .i8 0) := (blk_cell BK4.out 0).trans rfl
          have hcz4_1 : wr.cell? ⟨gb4, 1, none⟩ = some (.slice none 0 0) := (blk_cell BK4.out 1).trans rfl
          have hcz4_2 : wr.cell? ⟨gb4, 2, none⟩ = some (.slice none 0 0) := (blk_cell BK4.out 2).trans rfl
          have hfz4_0 := blk_frozen BK4.out 0
          have hfz4_1 := blk_frozen BK4.out 1
          have hfz4_2 := blk_frozen BK4.out 2
          have hnb := NB54.out
          have hnc := NB54.out.symm
          go_wp2
          refine bodyPost_ret (results_single (r := .cell 4 30) rfl (.cell gb4 30 #[.int .i8 a0, .slice A4 og.length c4, .slice A3 ol.length c3] (0, 0) _ rfl (blk_put (blk_put (blk_put BK4.out 0 (.int .i8 a0) rfl) 1 (.slice A4 og.length c4) rfl) 2 (.slice A3 ol.length c3) rfl) Try.underlying30 rfl (by kernel_rfl) .nil)) rfl ?_
          refine ⟨_, _, rfl, ?_, ?_, ?_, ?_⟩
          · exact Kd.R_mono (Kd.R_set (Kd.R_set (Kd.R_set HOg.out BK4.out (by decide) 0 (.int .i8 a0)) (blk_put BK4.out 0 (.int .i8 a0) rfl) (by decide) 1 (.slice A4 og.length c4)) (blk_put (blk_put BK4.out 0 (.int .i8 a0) rfl) 1 (.slice A4 og.length c4) rfl) (by decide) 2 (.slice A3 ol.length c3)) (fun _ _ => trivial)
          · have h := Kd.R_mono (ok' := fun _ => True) (Kd.R_set (Kd.R_set (Kd.R_set HO2.out BK4.out (by decide) 0 (.int .i8 a0)) (blk_put BK4.out 0 (.int .i8 a0) rfl) (by decide) 1 (.slice A4 og.length c4)) (blk_put (blk_put BK4.out 0 (.int .i8 a0) rfl) 1 (.slice A4 og.length c4) rfl) (by decide) 2 (.slice A3 ol.length c3)) (fun _ _ => trivial)
            have h2 := Kd.R_lower h HS.out
            rw [show (l2.map fun o => rd pl o) = ol from HOL2.out.symm]
            exact h2
          · exact below_set (below_set (below_set HB.out (Nat.le_trans HS.out GE4.out)) (Nat.le_trans HS.out GE4.out)) (Nat.le_trans HS.out GE4.out)
          · exact HST.out _ _ _ HC.out ((((Below.refl _ _).setCell (p := ⟨gb4, 0, none⟩) GE4.out _).setCell (p := ⟨gb4, 1, none⟩) GE4.out _).setCell (p := ⟨gb4, 2, none⟩) GE4.out _)
end Go.Proofs.Yteanndgkjoinmaa.X

-- Laid by wip/xprint.py of this session (the kit's print program, with some contracts given by hand). Not trusted: Lean checks it.
namespace Go.Proofs.Yteanndgkjoinmaa.X
open Go.RowKit Go.Proofs.YteanndgkjoinmaaW.PrintWords Go.Proofs.YteanndgkjoinmaaW.PrintLast Go.Proofs.YteanndgkjoinmaaW.PrintMore
attribute [local go_sem] max2_int min2_int max_two min_two max_three min_three max_four min_four
set_option linter.unusedVariables false
set_option linter.unusedSimpArgs false
def impl_within.f (a0 : Int) (a1 : Int) (a2 : Int) : Option (Bool) := if a1 ≤ a0 then (some (decide (a0 ≤ a2))) else (some false)
set_option maxHeartbeats 8000000 in
set_option maxRecDepth 100000 in
theorem impl_within.calls (a0 : Int) (a1 : Int) (a2 : Int) (r : Bool) (w : World) (h : impl_within.f a0 a1 a2 = some r) :
    Calls Try.prog 48 #[.int .i64 a0, .int .i64 a1, .int .i64 a2] w fun e w' => e = .returned (.bool r) ∧ Drawn0 w w' := by
  have H : (if a1 ≤ a0 then (some (decide (a0 ≤ a2))) else (some false)) = some r := h
  clear h
  by_cases c4 : a1 ≤ a0
  · rw [if_pos c4] at H
    have c4b0 : decide (a1 ≤ a0) = true := decide_eq_true c4
    clear c4
    obtain rfl := Option.some.inj H
    go_enter Try.func48, Try.ntmps48
    go_wp2
    go_ret
    exact ⟨by first | rfl | (simp; done) | (simp [*]; done), by repeat (first | exact Drawn0.refl _ | apply Drawn0.step)⟩
  · rw [if_neg c4] at H
    have c4b0 : decide (a1 ≤ a0) = false := decide_eq_false c4
    clear c4
    obtain rfl := Option.some.inj H
    go_enter Try.func48, Try.ntmps48
    go_wp2
    go_ret
    exact ⟨by first | rfl | (simp; done) | (simp [*]; done), by repeat (first | exact Drawn0.refl _ | apply Drawn0.step)⟩
end Go.Proofs.Yteanndgkjoinmaa.X
