/- Texts of this claim, joined: what the claim's last text comes to. They hold without any condition beyond those that each states. -/
import Derived.Test.YteanndgkjoinmaaYMerge3
-- Laid by wip/xprint.py of this session (the kit's print program, with some contracts given by hand). Not trusted: Lean checks it.
namespace Go.Proofs.Yteanndgkjoinmaa.X
open Go.RowKit Go.Proofs.YteanndgkjoinmaaW.PrintWords Go.Proofs.YteanndgkjoinmaaW.PrintLast Go.Proofs.YteanndgkjoinmaaW.PrintMore
attribute [local go_sem] max2_int min2_int max_two min_two max_three min_three max_four min_four
set_option linter.unusedVariables false
set_option linter.unusedSimpArgs false
attribute [local go_sem high] eqA68
mutual
def spec_MergeCircuit.l0 : Nat → List Int → Int → Int → List (S68) → List Int → Int → List (S68) → Option (Int × (List (S68)) × List Int × Int)
  | 0, _, _, _, _, _, _, _ => none
  | k + 1, x4, x6, x102000, x102001, x102002, x108000, x108001 => if x6 < (x102001.length : Int) then (if 0 ≤ x6 then ((spec_l07Joins.f ((rd_T68 x102001 x6).f0) ((rd_T68 x102001 x6).f1) ((rd_T68 x102001 x6).f2)).bind fun t110 => (if t110 = true then (if 0 ≤ ((rd_T68 x102001 x6).f1) then (if ((rd_T68 x102001 x6).f1) < (x4.length : Int) then (if 0 ≤ ((rd_T68 x102001 x6).f2) then (if ((rd_T68 x102001 x6).f2) < (x4.length : Int) then (if (rd x4 ((rd_T68 x102001 x6).f1)) > (rd x4 ((rd_T68 x102001 x6).f2)) then (spec_MergeCircuit.j1 k x4 x6 x102000 x102001 x102002 x108000 x108001 ((rd_T68 x102001 x6).f0) (rd x4 ((rd_T68 x102001 x6).f2)) (rd x4 ((rd_T68 x102001 x6).f1))) else (spec_MergeCircuit.j1 k x4 x6 x102000 x102001 x102002 x108000 x108001 ((rd_T68 x102001 x6).f0) (rd x4 ((rd_T68 x102001 x6).f1)) (rd x4 ((rd_T68 x102001 x6).f2)))) else (none)) else (none)) else (none)) else (none)) else (spec_MergeCircuit.j1 k x4 x6 x102000 x102001 x102002 x108000 x108001 ((rd_T68 x102001 x6).f0) ((rd_T68 x102001 x6).f1) ((rd_T68 x102001 x6).f2)))) else (none)) else (spec_MergeCircuit.l2 k x4 0 x102000 x102001 x102002 x108000 x108001 ([] : List Int))
def spec_MergeCircuit.j1 : Nat → List Int → Int → Int → List (S68) → List Int → Int → List (S68) → Int → Int → Int → Option (Int × (List (S68)) × List Int × Int)
  | 0, _, _, _, _, _, _, _, _, _, _ => none
  | k + 1, x4, x6, x102000, x102001, x102002, x108000, x108001, x110000, x110001, x110002 => spec_MergeCircuit.l1 k x4 x6 0 x102000 x102001 x102002 x108000 x108001 x110000 x110001 x110002
def spec_MergeCircuit.l1 : Nat → List Int → Int → Int → Int → List (S68) → List Int → Int → List (S68) → Int → Int → Int → Option (Int × (List (S68)) × List Int × Int)
  | 0, _, _, _, _, _, _, _, _, _, _, _ => none
  | k + 1, x4, x6, x8, x102000, x102001, x102002, x108000, x108001, x110000, x110001, x110002 => if x8 < (x108001.length : Int) then (if 0 ≤ x8 then (if (!(((rd_T68 x108001 x8).f0) == x110000) || (!(((rd_T68 x108001 x8).f1) == x110001) || (!(((rd_T68 x108001 x8).f2) == x110002)))) = true then (spec_MergeCircuit.l1 k x4 x6 (wrap64 (x8 + 1)) x102000 x102001 x102002 x108000 x108001 x110000 x110001 x110002) else (if x8 = (x108001.length : Int) then (if x108001.length < 23456248059221 then (if 0 ≤ x6 then (if x6 < (x4.length : Int) then (spec_MergeCircuit.l0 k (x4.set (x6 : Int).toNat (IntKind.i16.wrap (x8))) (wrap64 (x6 + 1)) x102000 x102001 x102002 x108000 (x108001 ++ [(⟨x110000, x110001, x110002⟩ : S68)])) else (none)) else (none)) else (none)) else (if 0 ≤ x6 then (if x6 < (x4.length : Int) then (spec_MergeCircuit.l0 k (x4.set (x6 : Int).toNat (IntKind.i16.wrap (x8))) (wrap64 (x6 + 1)) x102000 x102001 x102002 x108000 x108001) else (none)) else (none)))) else (none)) else (if x8 = (x108001.length : Int) then (if x108001.length < 23456248059221 then (if 0 ≤ x6 then (if x6 < (x4.length : Int) then (spec_MergeCircuit.l0 k (x4.set (x6 : Int).toNat (IntKind.i16.wrap (x8))) (wrap64 (x6 + 1)) x102000 x102001 x102002 x108000 (x108001 ++ [(⟨x110000, x110001, x110002⟩ : S68)])) else (none)) else (none)) else (none)) else (if 0 ≤ x6 then (if x6 < (x4.length : Int) then (spec_MergeCircuit.l0 k (x4.set (x6 : Int).toNat (IntKind.i16.wrap (x8))) (wrap64 (x6 + 1)) x102000 x102001 x102002 x108000 x108001) else (none)) else (none)))
def spec_MergeCircuit.l2 : Nat → List Int → Int → Int → List (S68) → List Int → Int → List (S68) → List Int → Option (Int × (List (S68)) × List Int × Int)
  | 0, _, _, _, _, _, _, _, _ => none
  | k + 1, x4, x9, x102000, x102001, x102002, x108000, x108001, x108002 => if x9 < (x102002.length : Int) then (if 0 ≤ x9 then (if 0 ≤ (rd x102002 x9) then (if (rd x102002 x9) < (x4.length : Int) then (if x108002.length < 70368744177664 then (spec_MergeCircuit.l2 k x4 (wrap64 (x9 + 1)) x102000 x102001 x102002 x108000 x108001 (x108002 ++ [rd x4 (rd x102002 x9)])) else (none)) else (none)) else (none)) else (none)) else (some (x108000, x108001, x108002, 0))
end
def spec_MergeCircuit.f (k : Nat) (a0_0 : Int) (l0_1 : List (S68)) (l0_2 : List Int) : Option (Int × (List (S68)) × List Int × Int) := (spec_l07Ok.f k a0_0 l0_1 l0_2).bind fun t103 => (if t103 = true then (if 0 ≤ (l0_1.length : Int) then (if ((l0_1.length : Int) : Int).toNat ≤ 140737488355328 then (spec_MergeCircuit.l0 k (List.replicate ((l0_1.length : Int) : Int).toNat 0) 0 a0_0 l0_1 l0_2 a0_0 ([] : List (S68))) else (none)) else (none)) else (some (0, ([] : List (S68)), ([] : List Int), 1)))
def spec_MergeCircuit.T10 : Bool × List (List Nat × List Nat) := (true, [([], []), ([0], [0]), ([], []), ([], []), ([3], [3]), ([2, 4], [2, 4]), ([5], [5]), ([], []), ([], []), ([8], [8]), ([7, 9], [7, 9]), ([10], [10]), ([1, 6, 11], [1, 6, 11]), ([12, 0, 1, 2, 3, 4, 5, 6, 7, 8, 9, 10, 11, 12], [12])])
def spec_MergeCircuit.B10 : List Nat := [0, 1, 0, 0, 8, 28, 60, 0, 0, 256, 896, 1920, 4095, 8191]
theorem spec_MergeCircuit.tab10 : rtab .any (opsOf Try.f16 10) = spec_MergeCircuit.T10 := by kernel_rfl
theorem spec_MergeCircuit.bits10 : waitsOk spec_MergeCircuit.T10.2 spec_MergeCircuit.B10 = true := by kernel_rfl
def spec_MergeCircuit.T14 : Bool × List (List Nat × List Nat) := (true, [([], []), ([], []), ([1], [1]), ([2], [2]), ([0, 3], [0, 3]), ([4], [4]), ([5], [5]), ([6, 5], [5, 6]), ([5], [5]), ([7, 8, 5], [5, 7, 8]), ([9, 5], [5, 9]), ([5], [5]), ([10, 11, 5], [5, 10, 11]), ([5, 12], [5, 12])])
def spec_MergeCircuit.B14 : List Nat := [0, 0, 2, 6, 15, 31, 63, 127, 63, 511, 1023, 63, 4095, 8191]
theorem spec_MergeCircuit.tab14 : rtab .any (opsOf Try.f16 14) = spec_MergeCircuit.T14 := by kernel_rfl
theorem spec_MergeCircuit.bits14 : waitsOk spec_MergeCircuit.T14.2 spec_MergeCircuit.B14 = true := by kernel_rfl
def spec_MergeCircuit.T22 : Bool × List (List Nat × List Nat) := (true, [([], []), ([0], [0]), ([], []), ([], []), ([3], [3]), ([], []), ([4, 5], [4, 5]), ([6], [6]), ([2, 7], [2, 7]), ([8], [8]), ([9], [9]), ([1, 10], [1, 10]), ([0, 1, 2, 3, 4, 5, 6, 7, 8, 9, 10, 11], []), ([12, 11, 11, 0, 1, 2, 3, 4, 5, 6, 7, 8, 9, 10, 11], [11, 12])])
def spec_MergeCircuit.B22 : List Nat := [0, 1, 0, 0, 8, 0, 56, 120, 252, 508, 1020, 2047, 4095, 8191]
theorem spec_MergeCircuit.tab22 : rtab .any (opsOf Try.f16 22) = spec_MergeCircuit.T22 := by kernel_rfl
theorem spec_MergeCircuit.bits22 : waitsOk spec_MergeCircuit.T22.2 spec_MergeCircuit.B22 = true := by kernel_rfl
set_option maxHeartbeats 8000000 in
set_option maxRecDepth 100000 in
theorem spec_MergeCircuit.calls (k : Nat) (a0_0 : Int) (A0_1 : Option Addr) (c0_1 : Nat) (l0_1 : List (S68)) (A0_2 : Option Addr) (c0_2 : Nat) (l0_2 : List Int) (r1 : Int) (r2 : List (S68)) (r3 : List Int) (r4 : Int) (w : World) (hr0_1 : Kd.C k68 w A0_1 l0_1.length l0_1) (hc0_1 : l0_1.length ≤ c0_1) (hr0_2 : Kd.C (Kd.int .i16) w A0_2 l0_2.length l0_2) (hc0_2 : l0_2.length ≤ c0_2) (h : spec_MergeCircuit.f k a0_0 l0_1 l0_2 = some (r1, r2, r3, r4)) :
    Calls Try.prog 16 #[.agg #[.int .i8 a0_0, .slice A0_1 l0_1.length c0_1, .slice A0_2 l0_2.length c0_2]] w fun e w' => ∃ v1_ v2_ : Value, e = .returned (.tuple #[.agg #[.int .i8 r1, v1_, v2_], .int .i64 r4]) ∧ Kd.R k68 68 w' w.heap.size (fun _ => True) v1_ r2 ∧ Kd.R (Kd.int .i16) 66 w' w.heap.size (fun _ => True) v2_ r3 ∧ Below w.heap.size w w' := by
  have hu30 := Try.underlying30
  have hu68 := Try.underlying68
  have HR0_1 := Aside0.mk hr0_1
  have HC0_1 := Aside0.mk hc0_1
  clear hr0_1 hc0_1
  have HR0_2 := Aside0.mk hr0_2
  have HC0_2 := Aside0.mk hc0_2
  clear hr0_2 hc0_2
  have HB := Aside0.mk (Below.refl w.heap.size w)
  have H : ((spec_l07Ok.f k a0_0 l0_1 l0_2).bind fun t103 => (if t103 = true then (if 0 ≤ (l0_1.length : Int) then (if ((l0_1.length : Int) : Int).toNat ≤ 140737488355328 then (spec_MergeCircuit.l0 k (List.replicate ((l0_1.length : Int) : Int).toNat 0) 0 a0_0 l0_1 l0_2 a0_0 ([] : List (S68))) else (none)) else (none)) else (some (0, ([] : List (S68)), ([] : List Int), 1)))) = some (r1, r2, r3, r4) := h
  clear h
  replace H := Option.bind_eq_some_iff.mp H
  obtain ⟨t103, A20, H⟩ := H
  replace H : (if t103 = true then (if 0 ≤ (l0_1.length : Int) then (if ((l0_1.length : Int) : Int).toNat ≤ 140737488355328 then (spec_MergeCircuit.l0 k (List.replicate ((l0_1.length : Int) : Int).toNat 0) 0 a0_0 l0_1 l0_2 a0_0 ([] : List (S68))) else (none)) else (none)) else (some (0, ([] : List (S68)), ([] : List Int), 1))) = some (r1, r2, r3, r4) := H
  have A2 := Aside0.mk A20
  clear A20
  by_cases c3 : t103 = true
  · subst c3
    have H1 : (if 0 ≤ (l0_1.length : Int) then (if ((l0_1.length : Int) : Int).toNat ≤ 140737488355328 then (spec_MergeCircuit.l0 k (List.replicate ((l0_1.length : Int) : Int).toNat 0) 0 a0_0 l0_1 l0_2 a0_0 ([] : List (S68))) else (none)) else (none)) = some (r1, r2, r3, r4) := by rw [if_pos rfl] at H; exact H
    clear H
    have H := H1
    clear H1
    by_cases c4 : 0 ≤ (l0_1.length : Int)
    · rw [if_pos c4] at H
      have c4b0 := eq_true c4
      have c4b1 : decide (0 ≤ (l0_1.length : Int)) = true := decide_eq_true c4
      clear c4
      by_cases c5 : ((l0_1.length : Int) : Int).toNat ≤ 140737488355328
      · rw [if_pos c5] at H
        have c5b0 := eq_true c5
        have c5b1 : decide (((l0_1.length : Int) : Int).toNat ≤ 140737488355328) = true := decide_eq_true c5
        clear c5
        obtain ⟨y104, hy104⟩ : ∃ y_ : List Int, y_ = (List.replicate ((l0_1.length : Int) : Int).toNat 0) := ⟨_, rfl⟩
        replace H : (spec_MergeCircuit.l0 k y104 0 a0_0 l0_1 l0_2 a0_0 ([] : List (S68))) = some (r1, r2, r3, r4) := by first | (rw [hy104]; with_reducible exact H) | (have H2_ := (Option.bind_some _ _).symm.trans H; rw [hy104]; with_reducible exact H2_) | (have H2_ := (Option.bind_some _ _).symm.trans H; with_reducible exact H2_) | with_reducible exact H | (rw [hy104]; exact H) | exact H
        have Ny104 := Aside0.mk hy104
        clear hy104
        have H' := Aside0.mk H
        clear H
        go_enter Try.func16, Try.ntmps16
        go_wp2_with (first | ((with_reducible refine gate_dst (N := 1) rfl ?_); refine box_event ?hg (N := 1) ?hd (cs := #[.int .i8 a0_0, .slice A0_1 l0_1.length c0_1, .slice A0_2 l0_2.length c0_2]) (t := 30) ?hr ?_; (case hd => rfl); (case hg => rfl); (case hr => first | (go_simp; done) | (go_simp; rfl)); intro gb101 hg w6 hbox hb; have n0_ := Aside0.mk (below_step (by repeat (first | (with_reducible first | exact HB.out | apply below_alloc | apply pw_below_drewN | apply below_drew1) | exact HB.out)) hb); have n1_ := Aside0.mk (hbox); have n2_ := Aside0.mk ((by rw [hg]; exact (below_size (by repeat (first | (with_reducible first | exact HB.out | apply below_alloc | apply pw_below_drewN | apply below_drew1) | exact HB.out))) : w.heap.size ≤ gb101)); have n3_ := Aside0.mk ((by rw [hg]; exact (below_size (by repeat (first | (with_reducible first | exact HB.out | apply below_alloc | apply pw_below_drewN | apply below_drew1) | exact HB.out))) : w.heap.size ≤ gb101)); clear HB; have HB := n0_; have BK101 := n1_; have GW101 := n2_; have GE101 := n3_; clear n0_ n1_ n2_ n3_; clear hb hbox hg) | ((with_reducible refine gate_dst (N := 2) rfl ?_); refine box_event ?hg (N := 2) ?hd (cs := #[.int .i8 0, .slice none 0 0, .slice none 0 0]) (t := 30) ?hr ?_; (case hd => rfl); (case hg => rfl); (case hr => first | (go_simp; done) | (go_simp; rfl)); intro gb102 hg w7 hbox hb; have n0_ := Aside0.mk (blk_below (g := gb101) (o := .cells #[.int .i8 a0_0, .slice A0_1 l0_1.length c0_1, .slice A0_2 l0_2.length c0_2] 30 (0, 0)) (by (with_reducible repeat (first | refine blk_drewN ?_ _ | refine blk_drew ?_ | refine blk_alloc ?_ _)); exact BK101.out) hb); have n1_ := Aside0.mk (below_step (by repeat (first | (with_reducible first | exact HB.out | apply below_alloc | apply pw_below_drewN | apply below_drew1 | refine below_set ?_ GE101.out) | exact HB.out)) hb); have n2_ := Aside0.mk (hbox); have n3_ := Aside0.mk ((by rw [hg]; exact (below_size (by repeat (first | (with_reducible first | exact HB.out | apply below_alloc | apply pw_below_drewN | apply below_drew1 | refine below_set ?_ GE101.out) | exact HB.out))) : w.heap.size ≤ gb102)); have n4_ := Aside0.mk ((by rw [hg]; exact (below_size (by repeat (first | (with_reducible first | exact HB.out | apply below_alloc | apply pw_below_drewN | apply below_drew1 | refine below_set ?_ GE101.out) | exact HB.out))) : w.heap.size ≤ gb102)); have n5_ := Aside0.mk ((by rw [hg]; exact Nat.ne_of_lt (blk_lt (g := gb101) (o := .cells #[.int .i8 a0_0, .slice A0_1 l0_1.length c0_1, .slice A0_2 l0_2.length c0_2] 30 (0, 0)) (by (with_reducible repeat (first | refine blk_drewN ?_ _ | refine blk_drew ?_ | refine blk_alloc ?_ _)); exact BK101.out)) : gb101 ≠ gb102)); have n6_ := Aside0.mk ((by rw [hg]; exact Nat.ne_of_gt (blk_lt (g := gb101) (o := .cells #[.int .i8 a0_0, .slice A0_1 l0_1.length c0_1, .slice A0_2 l0_2.length c0_2] 30 (0, 0)) (by (with_reducible repeat (first | refine blk_drewN ?_ _ | refine blk_drew ?_ | refine blk_alloc ?_ _)); exact BK101.out)) : gb102 ≠ gb101)); clear BK101; clear HB; have BK101 := n0_; have HB := n1_; have BK102 := n2_; have GW102 := n3_; have GE102 := n4_; have NB101_102 := n5_; have NB102_101 := n6_; clear n0_ n1_ n2_ n3_ n4_ n5_ n6_; clear hb hbox hg) | ((with_reducible refine gate_callee (f := 43) rfl ?_); refine goesL_ (some 10) rfl rfl Try.func43 (by kernel_rfl) rfl #[.pointer (some ⟨gb101, 0, none⟩)] rfl (by (try simp only [List.map_toArray, List.map_cons, List.map_nil]); first | done | rfl | (simp only [List.length_drop, List.length_take]; rfl)) ?_; (with_reducible refine (spec_l07Ok.calls k gb101 a0_0 A0_1 c0_1 l0_1 A0_2 c0_2 l0_2 true _ ?side1 ?side2 ?side3 ?side4 ?side5 A2.out).mono ?_); (case side1 => (with_reducible repeat (first | refine blk_drewN ?_ _ | refine blk_drew ?_ | refine blk_alloc ?_ _)); exact BK101.out); (case side2 => repeat (first | exact (Kd.C_below HR0_1.out HB.out) | (with_reducible refine Kd.C_alloc ?_ _) | (with_reducible refine Kd.C_drewN ?_ _) | (with_reducible refine Kd.C_drew ?_))); (case side3 => exact HC0_1.out); (case side4 => repeat (first | exact (Kd.C_below HR0_2.out HB.out) | (with_reducible refine Kd.C_alloc ?_ _) | (with_reducible refine Kd.C_drewN ?_ _) | (with_reducible refine Kd.C_drew ?_))); (case side5 => exact HC0_2.out); rintro e w8 ⟨rfl, hb⟩; refine ⟨_, rfl, ?_⟩; have n0_ := Aside0.mk (blk_below (g := gb101) (o := .cells #[.int .i8 a0_0, .slice A0_1 l0_1.length c0_1, .slice A0_2 l0_2.length c0_2] 30 (0, 0)) (by (with_reducible repeat (first | refine blk_drewN ?_ _ | refine blk_drew ?_ | refine blk_alloc ?_ _)); exact BK101.out) hb); have n1_ := Aside0.mk (blk_below (g := gb102) (o := .cells #[.int .i8 0, .slice none 0 0, .slice none 0 0] 30 (0, 0)) (by (with_reducible repeat (first | refine blk_drewN ?_ _ | refine blk_drew ?_ | refine blk_alloc ?_ _)); exact BK102.out) hb); have n2_ := Aside0.mk (below_step (by repeat (first | (with_reducible first | exact HB.out | apply below_alloc | apply pw_below_drewN | apply below_drew1 | refine below_set ?_ GE101.out | refine below_set ?_ GE102.out) | exact HB.out)) hb); clear BK101; clear BK102; clear HB; have BK101 := n0_; have BK102 := n1_; have HB := n2_; clear n0_ n1_ n2_; (try clear hb); (try clear hb2); (try clear hk); (try clear hi); have hnb9 := NB101_102.out; have hnc9 := NB102_101.out; have hcz10_0 : w8.cell? ⟨gb101, 0, none⟩ = some (.int .i8 a0_0) := (blk_cell BK101.out 0).trans rfl; have hcz10_1 : w8.cell? ⟨gb101, 1, none⟩ = some (.slice A0_1 l0_1.length c0_1) := (blk_cell BK101.out 1).trans rfl; have hcz10_2 : w8.cell? ⟨gb101, 2, none⟩ = some (.slice A0_2 l0_2.length c0_2) := (blk_cell BK101.out 2).trans rfl; have hfz10_0 := blk_frozen BK101.out 0; have hfz10_1 := blk_frozen BK101.out 1; have hfz10_2 := blk_frozen BK101.out 2) | ((with_reducible refine gate_dst (N := 16) rfl ?_); refine Kd.R_make (Kd.int .i16) _ 66 rfl (N := 16) rfl 24 _ _ rfl (l0_1.length : Int) rfl rfl Try.underlying24 (.int .i16 0) 2 info66 rfl (by decide) (by omega) 0 (ok := fun _ => True) (okp := fun _ => True) rfl (fun _ hk => hk) trivial (of_decide_eq_true (by first | (with_reducible assumption) | assumption)) (Nat.le_trans (Nat.mul_le_mul_right _ (of_decide_eq_true (by first | (with_reducible assumption) | assumption) : (l0_1.length : Int).toNat ≤ 140737488355328)) (by omega)) (Below.refl _ _) (Nat.le_refl _) ?_; intro v105 w11 ho12 hb hg_ hnew_; clear hg_ hnew_; (first | rw [← Ny104.out] at ho12 | (simp only [Int.reduceToNat] at ho12; rw [← Ny104.out] at ho12)); have n0_ := Aside0.mk (Kd.R_lower ho12 (below_size (by repeat (first | (with_reducible first | exact HB.out | apply below_alloc | apply pw_below_drewN | apply below_drew1 | refine below_set ?_ GE101.out | refine below_set ?_ GE102.out) | exact HB.out)))); have n1_ := Aside0.mk (blk_below (g := gb101) (o := .cells #[.int .i8 a0_0, .slice A0_1 l0_1.length c0_1, .slice A0_2 l0_2.length c0_2] 30 (0, 0)) (by (with_reducible repeat (first | refine blk_drewN ?_ _ | refine blk_drew ?_ | refine blk_alloc ?_ _)); exact BK101.out) hb); have n2_ := Aside0.mk (blk_below (g := gb102) (o := .cells #[.int .i8 0, .slice none 0 0, .slice none 0 0] 30 (0, 0)) (by (with_reducible repeat (first | refine blk_drewN ?_ _ | refine blk_drew ?_ | refine blk_alloc ?_ _)); exact BK102.out) hb); have n3_ := Aside0.mk (below_step (by repeat (first | (with_reducible first | exact HB.out | apply below_alloc | apply pw_below_drewN | apply below_drew1 | refine below_set ?_ GE101.out | refine below_set ?_ GE102.out) | exact HB.out)) hb); clear BK101; clear BK102; clear HB; have HO106 := n0_; have BK101 := n1_; have BK102 := n2_; have HB := n3_; clear n0_ n1_ n2_ n3_; clear hb ho12; have hcz13_0 : w11.cell? ⟨gb101, 0, none⟩ = some (.int .i8 a0_0) := (blk_cell BK101.out 0).trans rfl; have hcz13_1 : w11.cell? ⟨gb101, 1, none⟩ = some (.slice A0_1 l0_1.length c0_1) := (blk_cell BK101.out 1).trans rfl; have hcz13_2 : w11.cell? ⟨gb101, 2, none⟩ = some (.slice A0_2 l0_2.length c0_2) := (blk_cell BK101.out 2).trans rfl; have hfz13_0 := blk_frozen BK101.out 0; have hfz13_1 := blk_frozen BK101.out 1; have hfz13_2 := blk_frozen BK101.out 2) | ((with_reducible refine gate_dst (N := 5) rfl ?_); refine box_event ?hg (N := 5) ?hd (cs := #[.int .i8 0, .slice none 0 0, .slice none 0 0]) (t := 30) ?hr ?_; (case hd => rfl); (case hg => rfl); (case hr => first | (go_simp; done) | (go_simp; rfl)); intro gb107 hg w14 hbox hb; have n0_ := Aside0.mk (Kd.R_below (by (with_reducible repeat (first | apply Kd.R_alloc | apply Kd.R_drewN | apply Kd.R_drew)); exact HO106.out) hb); have n1_ := Aside0.mk (blk_below (g := gb101) (o := .cells #[.int .i8 a0_0, .slice A0_1 l0_1.length c0_1, .slice A0_2 l0_2.length c0_2] 30 (0, 0)) (by (with_reducible repeat (first | refine blk_drewN ?_ _ | refine blk_drew ?_ | refine blk_alloc ?_ _)); exact BK101.out) hb); have n2_ := Aside0.mk (blk_below (g := gb102) (o := .cells #[.int .i8 0, .slice none 0 0, .slice none 0 0] 30 (0, 0)) (by (with_reducible repeat (first | refine blk_drewN ?_ _ | refine blk_drew ?_ | refine blk_alloc ?_ _)); exact BK102.out) hb); have n3_ := Aside0.mk (below_step (by repeat (first | (with_reducible first | exact HB.out | apply below_alloc | apply pw_below_drewN | apply below_drew1 | refine below_set ?_ GE101.out | refine below_set ?_ GE102.out) | exact HB.out)) hb); have n4_ := Aside0.mk (hbox); have n5_ := Aside0.mk ((by rw [hg]; exact (below_size (by repeat (first | (with_reducible first | exact HB.out | apply below_alloc | apply pw_below_drewN | apply below_drew1 | refine below_set ?_ GE101.out | refine below_set ?_ GE102.out) | exact HB.out))) : w.heap.size ≤ gb107)); have n6_ := Aside0.mk ((by rw [hg]; exact (below_size (by repeat (first | (with_reducible first | exact HB.out | apply below_alloc | apply pw_below_drewN | apply below_drew1 | refine below_set ?_ GE101.out | refine below_set ?_ GE102.out) | exact HB.out))) : w.heap.size ≤ gb107)); have n7_ := Aside0.mk ((by rw [hg]; exact Nat.ne_of_lt (blk_lt (g := gb101) (o := .cells #[.int .i8 a0_0, .slice A0_1 l0_1.length c0_1, .slice A0_2 l0_2.length c0_2] 30 (0, 0)) (by (with_reducible repeat (first | refine blk_drewN ?_ _ | refine blk_drew ?_ | refine blk_alloc ?_ _)); exact BK101.out)) : gb101 ≠ gb107)); have n8_ := Aside0.mk ((by rw [hg]; exact Nat.ne_of_gt (blk_lt (g := gb101) (o := .cells #[.int .i8 a0_0, .slice A0_1 l0_1.length c0_1, .slice A0_2 l0_2.length c0_2] 30 (0, 0)) (by (with_reducible repeat (first | refine blk_drewN ?_ _ | refine blk_drew ?_ | refine blk_alloc ?_ _)); exact BK101.out)) : gb107 ≠ gb101)); have n9_ := Aside0.mk ((by rw [hg]; exact Nat.ne_of_lt (blk_lt (g := gb102) (o := .cells #[.int .i8 0, .slice none 0 0, .slice none 0 0] 30 (0, 0)) (by (with_reducible repeat (first | refine blk_drewN ?_ _ | refine blk_drew ?_ | refine blk_alloc ?_ _)); exact BK102.out)) : gb102 ≠ gb107)); have n10_ := Aside0.mk ((by rw [hg]; exact Nat.ne_of_gt (blk_lt (g := gb102) (o := .cells #[.int .i8 0, .slice none 0 0, .slice none 0 0] 30 (0, 0)) (by (with_reducible repeat (first | refine blk_drewN ?_ _ | refine blk_drew ?_ | refine blk_alloc ?_ _)); exact BK102.out)) : gb107 ≠ gb102)); clear HO106; clear BK101; clear BK102; clear HB; have HO106 := n0_; have BK101 := n1_; have BK102 := n2_; have HB := n3_; have BK107 := n4_; have GW107 := n5_; have GE107 := n6_; have NB101_107 := n7_; have NB107_101 := n8_; have NB102_107 := n9_; have NB107_102 := n10_; clear n0_ n1_ n2_ n3_ n4_ n5_ n6_ n7_ n8_ n9_ n10_; clear hb hbox hg; have hnb15 := NB107_101.out; have hnc15 := NB101_107.out; have hnb16 := NB107_102.out; have hnc16 := NB102_107.out; have hcz17_0 : w14.cell? ⟨gb107, 0, none⟩ = some (.int .i8 0) := (blk_cell BK107.out 0).trans rfl; have hcz17_1 : w14.cell? ⟨gb107, 1, none⟩ = some (.slice none 0 0) := (blk_cell BK107.out 1).trans rfl; have hcz17_2 : w14.cell? ⟨gb107, 2, none⟩ = some (.slice none 0 0) := (blk_cell BK107.out 2).trans rfl; have hfz17_0 := blk_frozen BK107.out 0; have hfz17_1 := blk_frozen BK107.out 1; have hfz17_2 := blk_frozen BK107.out 2))
        go_loopg [6] k (fun kq v6 w' => ∃ (x4_1 : List Int) (x6_1 : Int) (x108001_1 : List (S68)) (u108001 : Value), v6 = .int .i64 x6_1 ∧ Aside0 (spec_MergeCircuit.l0 kq x4_1 x6_1 a0_0 l0_1 l0_2 a0_0 x108001_1 = some (r1, r2, r3, r4)) ∧ Aside0 (kq ≤ k) ∧ Aside0 (Kd.R (Kd.int .i16) 66 w' w.heap.size (fun _ => True) v105 x4_1) ∧ Aside0 (Kd.R k68 68 w' w.heap.size (fun _ => True) u108001 x108001_1) ∧ Aside0 (w'.heap[gb101]? = some (.cells #[.int .i8 a0_0, (.slice A0_1 l0_1.length c0_1), (.slice A0_2 l0_2.length c0_2)] 30 (0, 0))) ∧ Aside0 (w'.heap[gb102]? = some (.cells #[.int .i8 0, (.slice none 0 0), (.slice none 0 0)] 30 (0, 0))) ∧ Aside0 (w'.heap[gb107]? = some (.cells #[.int .i8 a0_0, u108001, (.slice none 0 0)] 30 (0, 0))) ∧ Aside0 (Below w.heap.size w w'))
        case atStart => exact ⟨(y104), (0), (([] : List (S68))), (.slice none 0 0), (by first | rfl | (simp; done) | (simp [*]; done)), H', ⟨Nat.le_refl _⟩, ⟨by (with_reducible repeat (first | apply Kd.R_alloc | apply Kd.R_drewN | apply Kd.R_drew)); exact Kd.R_mono (Kd.R_far (p := ⟨gb107, 2, none⟩) (Kd.R_far (p := ⟨gb107, 1, none⟩) (Kd.R_far (p := ⟨gb107, 0, none⟩) (Kd.R_types HO106.out BK107.out (by decide)) (fun _ hk => hk.2) (.int .i8 a0_0)) (fun _ hk => hk.2) (.slice none 0 0)) (fun _ hk => hk.2) (.slice none 0 0)) (fun _ hk => trivial)⟩, ⟨by first | exact Kd.R_nil _ _ _ _ _ | exact Kd.N_nil _ _ _ _ _ | exact Kd.V_nil _ _ _ _ _ | exact Kd.Q_nil _ _ _ _ _ | exact Kd.S_nil _ _ _ _ _⟩, ⟨by (with_reducible repeat (first | refine blk_drewN ?_ _ | refine blk_drew ?_ | refine blk_alloc ?_ _)); refine blk_far ?_ NB101_107.out _; (with_reducible repeat (first | refine blk_drewN ?_ _ | refine blk_drew ?_ | refine blk_alloc ?_ _)); refine blk_far ?_ NB101_107.out _; (with_reducible repeat (first | refine blk_drewN ?_ _ | refine blk_drew ?_ | refine blk_alloc ?_ _)); refine blk_far ?_ NB101_107.out _; (with_reducible repeat (first | refine blk_drewN ?_ _ | refine blk_drew ?_ | refine blk_alloc ?_ _)); exact BK101.out⟩, ⟨by (with_reducible repeat (first | refine blk_drewN ?_ _ | refine blk_drew ?_ | refine blk_alloc ?_ _)); refine blk_far ?_ NB102_107.out _; (with_reducible repeat (first | refine blk_drewN ?_ _ | refine blk_drew ?_ | refine blk_alloc ?_ _)); refine blk_far ?_ NB102_107.out _; (with_reducible repeat (first | refine blk_drewN ?_ _ | refine blk_drew ?_ | refine blk_alloc ?_ _)); refine blk_far ?_ NB102_107.out _; (with_reducible repeat (first | refine blk_drewN ?_ _ | refine blk_drew ?_ | refine blk_alloc ?_ _)); exact BK102.out⟩, ⟨by (with_reducible repeat (first | refine blk_drewN ?_ _ | refine blk_drew ?_ | refine blk_alloc ?_ _)); refine blk_put (cs := #[.int .i8 a0_0, .slice none 0 0, .slice none 0 0]) ?_ 2 _ rfl; (with_reducible repeat (first | refine blk_drewN ?_ _ | refine blk_drew ?_ | refine blk_alloc ?_ _)); refine blk_put (cs := #[.int .i8 a0_0, .slice none 0 0, .slice none 0 0]) ?_ 1 _ rfl; (with_reducible repeat (first | refine blk_drewN ?_ _ | refine blk_drew ?_ | refine blk_alloc ?_ _)); refine blk_put (cs := #[.int .i8 0, .slice none 0 0, .slice none 0 0]) ?_ 0 _ rfl; (with_reducible repeat (first | refine blk_drewN ?_ _ | refine blk_drew ?_ | refine blk_alloc ?_ _)); exact BK107.out⟩, ⟨by repeat (first | (with_reducible first | exact HB.out | apply below_alloc | apply pw_below_drewN | apply below_drew1 | refine below_set ?_ GE101.out | refine below_set ?_ GE102.out | refine below_set ?_ GE107.out) | exact HB.out)⟩⟩
        case round =>
          clear H'
          try clear c1
          try clear p2
          try clear c3
          try clear c4
          try clear c4b0
          try clear c4b1
          try clear c5
          try clear c5b0
          try clear c5b1
          try clear c9
          try clear c15
          try clear c16
          try clear hcz10_0
          try clear hcz10_1
          try clear hcz10_2
          try clear hcz13_0
          try clear hcz13_1
          try clear hcz13_2
          try clear hcz17_0
          try clear hcz17_1
          try clear hcz17_2
          try clear hfz10_0
          try clear hfz10_1
          try clear hfz10_2
          try clear hfz13_0
          try clear hfz13_1
          try clear hfz13_2
          try clear hfz17_0
          try clear hfz17_1
          try clear hfz17_2
          obtain ⟨x4_1, x6_1, x108001_1, u108001, rfl, HA, HK1, HO_4, HO_108001, BK101, BK102, BK107, HB⟩ := hrel
          cases gk with
          | zero => exact absurd HA.out (by simp [spec_MergeCircuit.l0])
          | succ k1 =>
            have H := HA.out
            clear HA
            simp only [spec_MergeCircuit.l0] at H
            by_cases c18 : x6_1 < (l0_1.length : Int)
            · rw [if_pos c18] at H
              have c18b0 : decide (x6_1 < (l0_1.length : Int)) = true := decide_eq_true c18
              clear c18
              by_cases c19 : 0 ≤ x6_1
              · rw [if_pos c19] at H
                have c19b0 : decide (0 ≤ x6_1) = true := decide_eq_true c19
                clear c19
                replace H := Option.bind_eq_some_iff.mp H
                obtain ⟨t110, A200, H⟩ := H
                replace H : (if t110 = true then (if 0 ≤ ((rd_T68 l0_1 x6_1).f1) then (if ((rd_T68 l0_1 x6_1).f1) < (x4_1.length : Int) then (if 0 ≤ ((rd_T68 l0_1 x6_1).f2) then (if ((rd_T68 l0_1 x6_1).f2) < (x4_1.length : Int) then (if (rd x4_1 ((rd_T68 l0_1 x6_1).f1)) > (rd x4_1 ((rd_T68 l0_1 x6_1).f2)) then (spec_MergeCircuit.j1 k1 x4_1 x6_1 a0_0 l0_1 l0_2 a0_0 x108001_1 ((rd_T68 l0_1 x6_1).f0) (rd x4_1 ((rd_T68 l0_1 x6_1).f2)) (rd x4_1 ((rd_T68 l0_1 x6_1).f1))) else (spec_MergeCircuit.j1 k1 x4_1 x6_1 a0_0 l0_1 l0_2 a0_0 x108001_1 ((rd_T68 l0_1 x6_1).f0) (rd x4_1 ((rd_T68 l0_1 x6_1).f1)) (rd x4_1 ((rd_T68 l0_1 x6_1).f2)))) else (none)) else (none)) else (none)) else (none)) else (spec_MergeCircuit.j1 k1 x4_1 x6_1 a0_0 l0_1 l0_2 a0_0 x108001_1 ((rd_T68 l0_1 x6_1).f0) ((rd_T68 l0_1 x6_1).f1) ((rd_T68 l0_1 x6_1).f2))) = some (r1, r2, r3, r4) := H
                have A20 := Aside0.mk A200
                clear A200
                have HC21 := Aside0.mk H
                clear H
                have hnb22 := NB101_102.out
                have hnc22 := NB102_101.out
                have hnb23 := NB101_107.out
                have hnc23 := NB107_101.out
                have hcz24_0 : wr.cell? ⟨gb101, 0, none⟩ = some (.int .i8 a0_0) := (blk_cell BK101.out 0).trans rfl
                have hcz24_1 : wr.cell? ⟨gb101, 1, none⟩ = some (.slice A0_1 l0_1.length c0_1) := (blk_cell BK101.out 1).trans rfl
                have hcz24_2 : wr.cell? ⟨gb101, 2, none⟩ = some (.slice A0_2 l0_2.length c0_2) := (blk_cell BK101.out 2).trans rfl
                have hfz24_0 := blk_frozen BK101.out 0
                have hfz24_1 := blk_frozen BK101.out 1
                have hfz24_2 := blk_frozen BK101.out 2
                have p108 : 0 ≤ (x6_1 : Int) := of_decide_eq_true (by first | (with_reducible assumption) | assumption)
                have q108 : x6_1 < (l0_1.length : Int) := of_decide_eq_true (by first | (with_reducible assumption) | assumption)
                obtain ⟨ad108, e108, hx108_0, hx108_1, hx108_2⟩ := at_T68 HR0_1.out x6_1 p108 q108
                cases e108
                replace hx108_0 := (HB.out.cell (World.block_lt_of_cell? w _ hx108_0)).trans hx108_0
                replace hx108_1 := (HB.out.cell (World.block_lt_of_cell? w _ hx108_1)).trans hx108_1
                replace hx108_2 := (HB.out.cell (World.block_lt_of_cell? w _ hx108_2)).trans hx108_2
                replace p108 := eq_true p108
                replace q108 := eq_true q108
                go_upto_if 33 with (first | ((with_reducible refine gate_dst (N := 7) rfl ?_); refine box_event ?hg (N := 7) ?hd (cs := #[.int .i8 0, .int .i16 0, .int .i16 0]) (t := 68) ?hr ?_; (case hd => rfl); (case hg => rfl); (case hr => first | (go_simp; done) | (go_simp; rfl)); intro gb109 hg w25 hbox hb; have n0_ := Aside0.mk (Kd.R_below (by (with_reducible repeat (first | apply Kd.R_alloc | apply Kd.R_drewN | apply Kd.R_drew)); exact HO_4.out) hb); have n1_ := Aside0.mk (Kd.R_below (Kd.R_elderB (by (with_reducible repeat (first | apply Kd.R_alloc | apply Kd.R_drewN | apply Kd.R_drew)); exact HO_108001.out) gb109 (Nat.le_of_eq hg.symm)) hb); have n2_ := Aside0.mk (blk_below (g := gb101) (o := .cells #[.int .i8 a0_0, .slice (some ad108) l0_1.length c0_1, .slice A0_2 l0_2.length c0_2] 30 (0, 0)) (by (with_reducible repeat (first | refine blk_drewN ?_ _ | refine blk_drew ?_ | refine blk_alloc ?_ _)); exact BK101.out) hb); have n3_ := Aside0.mk (blk_below (g := gb102) (o := .cells #[.int .i8 0, .slice none 0 0, .slice none 0 0] 30 (0, 0)) (by (with_reducible repeat (first | refine blk_drewN ?_ _ | refine blk_drew ?_ | refine blk_alloc ?_ _)); exact BK102.out) hb); have n4_ := Aside0.mk (blk_below (g := gb107) (o := .cells #[.int .i8 a0_0, u108001, .slice none 0 0] 30 (0, 0)) (by (with_reducible repeat (first | refine blk_drewN ?_ _ | refine blk_drew ?_ | refine blk_alloc ?_ _)); exact BK107.out) hb); have n5_ := Aside0.mk (below_step (by repeat (first | (with_reducible first | exact HB.out | apply below_alloc | apply pw_below_drewN | apply below_drew1 | refine below_set ?_ GE101.out | refine below_set ?_ GE102.out | refine below_set ?_ GE107.out) | exact HB.out)) hb); have n6_ := Aside0.mk (hbox); have n7_ := Aside0.mk ((by rw [hg]; exact (below_size (by repeat (first | (with_reducible first | exact HB.out | apply below_alloc | apply pw_below_drewN | apply below_drew1 | refine below_set ?_ GE101.out | refine below_set ?_ GE102.out | refine below_set ?_ GE107.out) | exact HB.out))) : w.heap.size ≤ gb109)); have n8_ := Aside0.mk ((by rw [hg]; exact (below_size (by repeat (first | (with_reducible first | exact HB.out | apply below_alloc | apply pw_below_drewN | apply below_drew1 | refine below_set ?_ GE101.out | refine below_set ?_ GE102.out | refine below_set ?_ GE107.out) | exact HB.out))) : w.heap.size ≤ gb109)); have n9_ := Aside0.mk ((by rw [hg]; exact Nat.ne_of_lt (blk_lt (g := gb101) (o := .cells #[.int .i8 a0_0, .slice (some ad108) l0_1.length c0_1, .slice A0_2 l0_2.length c0_2] 30 (0, 0)) (by (with_reducible repeat (first | refine blk_drewN ?_ _ | refine blk_drew ?_ | refine blk_alloc ?_ _)); exact BK101.out)) : gb101 ≠ gb109)); have n10_ := Aside0.mk ((by rw [hg]; exact Nat.ne_of_gt (blk_lt (g := gb101) (o := .cells #[.int .i8 a0_0, .slice (some ad108) l0_1.length c0_1, .slice A0_2 l0_2.length c0_2] 30 (0, 0)) (by (with_reducible repeat (first | refine blk_drewN ?_ _ | refine blk_drew ?_ | refine blk_alloc ?_ _)); exact BK101.out)) : gb109 ≠ gb101)); have n11_ := Aside0.mk ((by rw [hg]; exact Nat.ne_of_lt (blk_lt (g := gb102) (o := .cells #[.int .i8 0, .slice none 0 0, .slice none 0 0] 30 (0, 0)) (by (with_reducible repeat (first | refine blk_drewN ?_ _ | refine blk_drew ?_ | refine blk_alloc ?_ _)); exact BK102.out)) : gb102 ≠ gb109)); have n12_ := Aside0.mk ((by rw [hg]; exact Nat.ne_of_gt (blk_lt (g := gb102) (o := .cells #[.int .i8 0, .slice none 0 0, .slice none 0 0] 30 (0, 0)) (by (with_reducible repeat (first | refine blk_drewN ?_ _ | refine blk_drew ?_ | refine blk_alloc ?_ _)); exact BK102.out)) : gb109 ≠ gb102)); have n13_ := Aside0.mk ((by rw [hg]; exact Nat.ne_of_lt (blk_lt (g := gb107) (o := .cells #[.int .i8 a0_0, u108001, .slice none 0 0] 30 (0, 0)) (by (with_reducible repeat (first | refine blk_drewN ?_ _ | refine blk_drew ?_ | refine blk_alloc ?_ _)); exact BK107.out)) : gb107 ≠ gb109)); have n14_ := Aside0.mk ((by rw [hg]; exact Nat.ne_of_gt (blk_lt (g := gb107) (o := .cells #[.int .i8 a0_0, u108001, .slice none 0 0] 30 (0, 0)) (by (with_reducible repeat (first | refine blk_drewN ?_ _ | refine blk_drew ?_ | refine blk_alloc ?_ _)); exact BK107.out)) : gb109 ≠ gb107)); clear HO_4; clear HO_108001; clear BK101; clear BK102; clear BK107; clear HB; have HO_4 := n0_; have HO_108001 := n1_; have BK101 := n2_; have BK102 := n3_; have BK107 := n4_; have HB := n5_; have BK109 := n6_; have GW109 := n7_; have GE109 := n8_; have NB101_109 := n9_; have NB109_101 := n10_; have NB102_109 := n11_; have NB109_102 := n12_; have NB107_109 := n13_; have NB109_107 := n14_; clear n0_ n1_ n2_ n3_ n4_ n5_ n6_ n7_ n8_ n9_ n10_ n11_ n12_ n13_ n14_; clear hb hbox hg; have hnb26 := NB109_101.out; have hnc26 := NB101_109.out; have hnb27 := NB109_102.out; have hnc27 := NB102_109.out; have hnb28 := NB109_107.out; have hnc28 := NB107_109.out; have hcz29_0 : w25.cell? ⟨gb109, 0, none⟩ = some (.int .i8 0) := (blk_cell BK109.out 0).trans rfl; have hcz29_1 : w25.cell? ⟨gb109, 1, none⟩ = some (.int .i16 0) := (blk_cell BK109.out 1).trans rfl; have hcz29_2 : w25.cell? ⟨gb109, 2, none⟩ = some (.int .i16 0) := (blk_cell BK109.out 2).trans rfl; have hfz29_0 := blk_frozen BK109.out 0; have hfz29_1 := blk_frozen BK109.out 1; have hfz29_2 := blk_frozen BK109.out 2) | ((with_reducible refine gate_callee (f := 45) rfl ?_); refine goesL_ (some 33) rfl rfl Try.func45 (by kernel_rfl) rfl #[.agg #[.int .i8 ((rd_T68 l0_1 x6_1).f0), .int .i16 ((rd_T68 l0_1 x6_1).f1), .int .i16 ((rd_T68 l0_1 x6_1).f2)]] rfl (by (try simp only [List.map_toArray, List.map_cons, List.map_nil]); first | done | rfl | (simp only [List.length_drop, List.length_take]; rfl)) ?_; (with_reducible refine (spec_l07Joins.calls ((rd_T68 l0_1 x6_1).f0) ((rd_T68 l0_1 x6_1).f1) ((rd_T68 l0_1 x6_1).f2) t110 _ A20.out).mono ?_); rintro e w30 ⟨rfl, hb⟩; refine ⟨_, rfl, ?_⟩; have n0_ := Aside0.mk (Kd.R_below (by (with_reducible repeat (first | apply Kd.R_alloc | apply Kd.R_drewN | apply Kd.R_drew)); exact (Kd.R_mono (Kd.R_far (p := ⟨gb109, 2, none⟩) (Kd.R_far (p := ⟨gb109, 1, none⟩) (Kd.R_far (p := ⟨gb109, 0, none⟩) (Kd.R_types HO_4.out BK109.out (by decide)) (fun _ hk => hk.2) (.int .i8 ((rd_T68 l0_1 x6_1).f0))) (fun _ hk => hk.2) (.int .i16 ((rd_T68 l0_1 x6_1).f1))) (fun _ hk => hk.2) (.int .i16 ((rd_T68 l0_1 x6_1).f2))) (fun _ h_ => h_.1))) hb); have n1_ := Aside0.mk (Kd.R_below (by (with_reducible repeat (first | apply Kd.R_alloc | apply Kd.R_drewN | apply Kd.R_drew)); exact (Kd.R_mono (Kd.R_far (p := ⟨gb109, 2, none⟩) (Kd.R_far (p := ⟨gb109, 1, none⟩) (Kd.R_far (p := ⟨gb109, 0, none⟩) (Kd.R_mono HO_108001.out (fun k_ hk => (⟨hk, hk.2⟩ : _ ∧ k_ ≠ gb109))) (fun _ hk => hk.2) (.int .i8 ((rd_T68 l0_1 x6_1).f0))) (fun _ hk => hk.2) (.int .i16 ((rd_T68 l0_1 x6_1).f1))) (fun _ hk => hk.2) (.int .i16 ((rd_T68 l0_1 x6_1).f2))) (fun _ h_ => h_.1))) hb); have n2_ := Aside0.mk (blk_below (g := gb101) (o := .cells #[.int .i8 a0_0, .slice (some ad108) l0_1.length c0_1, .slice A0_2 l0_2.length c0_2] 30 (0, 0)) (by (with_reducible repeat (first | refine blk_drewN ?_ _ | refine blk_drew ?_ | refine blk_alloc ?_ _)); refine blk_far ?_ NB101_109.out _; (with_reducible repeat (first | refine blk_drewN ?_ _ | refine blk_drew ?_ | refine blk_alloc ?_ _)); refine blk_far ?_ NB101_109.out _; (with_reducible repeat (first | refine blk_drewN ?_ _ | refine blk_drew ?_ | refine blk_alloc ?_ _)); refine blk_far ?_ NB101_109.out _; (with_reducible repeat (first | refine blk_drewN ?_ _ | refine blk_drew ?_ | refine blk_alloc ?_ _)); exact BK101.out) hb); have n3_ := Aside0.mk (blk_below (g := gb102) (o := .cells #[.int .i8 0, .slice none 0 0, .slice none 0 0] 30 (0, 0)) (by (with_reducible repeat (first | refine blk_drewN ?_ _ | refine blk_drew ?_ | refine blk_alloc ?_ _)); refine blk_far ?_ NB102_109.out _; (with_reducible repeat (first | refine blk_drewN ?_ _ | refine blk_drew ?_ | refine blk_alloc ?_ _)); refine blk_far ?_ NB102_109.out _; (with_reducible repeat (first | refine blk_drewN ?_ _ | refine blk_drew ?_ | refine blk_alloc ?_ _)); refine blk_far ?_ NB102_109.out _; (with_reducible repeat (first | refine blk_drewN ?_ _ | refine blk_drew ?_ | refine blk_alloc ?_ _)); exact BK102.out) hb); have n4_ := Aside0.mk (blk_below (g := gb107) (o := .cells #[.int .i8 a0_0, u108001, .slice none 0 0] 30 (0, 0)) (by (with_reducible repeat (first | refine blk_drewN ?_ _ | refine blk_drew ?_ | refine blk_alloc ?_ _)); refine blk_far ?_ NB107_109.out _; (with_reducible repeat (first | refine blk_drewN ?_ _ | refine blk_drew ?_ | refine blk_alloc ?_ _)); refine blk_far ?_ NB107_109.out _; (with_reducible repeat (first | refine blk_drewN ?_ _ | refine blk_drew ?_ | refine blk_alloc ?_ _)); refine blk_far ?_ NB107_109.out _; (with_reducible repeat (first | refine blk_drewN ?_ _ | refine blk_drew ?_ | refine blk_alloc ?_ _)); exact BK107.out) hb); have n5_ := Aside0.mk (blk_below (g := gb109) (o := .cells #[.int .i8 ((rd_T68 l0_1 x6_1).f0), .int .i16 ((rd_T68 l0_1 x6_1).f1), .int .i16 ((rd_T68 l0_1 x6_1).f2)] 68 (0, 0)) (by (with_reducible repeat (first | refine blk_drewN ?_ _ | refine blk_drew ?_ | refine blk_alloc ?_ _)); refine blk_put (cs := #[.int .i8 ((rd_T68 l0_1 x6_1).f0), .int .i16 ((rd_T68 l0_1 x6_1).f1), .int .i16 0]) ?_ 2 _ rfl; (with_reducible repeat (first | refine blk_drewN ?_ _ | refine blk_drew ?_ | refine blk_alloc ?_ _)); refine blk_put (cs := #[.int .i8 ((rd_T68 l0_1 x6_1).f0), .int .i16 0, .int .i16 0]) ?_ 1 _ rfl; (with_reducible repeat (first | refine blk_drewN ?_ _ | refine blk_drew ?_ | refine blk_alloc ?_ _)); refine blk_put (cs := #[.int .i8 0, .int .i16 0, .int .i16 0]) ?_ 0 _ rfl; (with_reducible repeat (first | refine blk_drewN ?_ _ | refine blk_drew ?_ | refine blk_alloc ?_ _)); exact BK109.out) hb); have n6_ := Aside0.mk (below_step (by repeat (first | (with_reducible first | exact HB.out | apply below_alloc | apply pw_below_drewN | apply below_drew1 | refine below_set ?_ GE101.out | refine below_set ?_ GE102.out | refine below_set ?_ GE107.out | refine below_set ?_ GE109.out) | exact HB.out)) hb); clear HO_4; clear HO_108001; clear BK101; clear BK102; clear BK107; clear BK109; clear HB; have HO_4 := n0_; have HO_108001 := n1_; have BK101 := n2_; have BK102 := n3_; have BK107 := n4_; have BK109 := n5_; have HB := n6_; clear n0_ n1_ n2_ n3_ n4_ n5_ n6_; (try clear hb); (try clear hb2); (try clear hk); (try clear hi)))
                (try simp only [Act.put, List.setIfInBounds_toArray, List.set_cons_zero, List.set_cons_succ])
                go_cut [] (fun wc => ∃ (kq : Nat) (x110000_20 : Int) (x110001_20 : Int) (x110002_20 : Int), Aside0 (spec_MergeCircuit.j1 kq x4_1 x6_1 a0_0 l0_1 l0_2 a0_0 x108001_1 x110000_20 x110001_20 x110002_20 = some (r1, r2, r3, r4)) ∧ Aside0 (kq ≤ k1) ∧ Aside0 (Kd.R (Kd.int .i16) 66 wc w.heap.size (fun _ => True) v105 x4_1) ∧ Aside0 (Kd.R k68 68 wc w.heap.size (fun k_ => k_ ≠ gb109) u108001 x108001_1) ∧ Aside0 (wc.heap[gb101]? = some (.cells #[.int .i8 a0_0, (.slice (some ad108) l0_1.length c0_1), (.slice A0_2 l0_2.length c0_2)] 30 (0, 0))) ∧ Aside0 (wc.heap[gb102]? = some (.cells #[.int .i8 0, (.slice none 0 0), (.slice none 0 0)] 30 (0, 0))) ∧ Aside0 (wc.heap[gb107]? = some (.cells #[.int .i8 a0_0, u108001, (.slice none 0 0)] 30 (0, 0))) ∧ Aside0 (wc.heap[gb109]? = some (.cells #[.int .i8 x110000_20, .int .i16 x110001_20, .int .i16 x110002_20] 68 (0, 0))) ∧ Aside0 (Below w.heap.size w wc))
                case first =>
                  have H := HC21.out
                  clear HC21
                  by_cases c31 : t110 = true
                  · subst c31
                    have H1 : (if 0 ≤ ((rd_T68 l0_1 x6_1).f1) then (if ((rd_T68 l0_1 x6_1).f1) < (x4_1.length : Int) then (if 0 ≤ ((rd_T68 l0_1 x6_1).f2) then (if ((rd_T68 l0_1 x6_1).f2) < (x4_1.length : Int) then (if (rd x4_1 ((rd_T68 l0_1 x6_1).f1)) > (rd x4_1 ((rd_T68 l0_1 x6_1).f2)) then (spec_MergeCircuit.j1 k1 x4_1 x6_1 a0_0 l0_1 l0_2 a0_0 x108001_1 ((rd_T68 l0_1 x6_1).f0) (rd x4_1 ((rd_T68 l0_1 x6_1).f2)) (rd x4_1 ((rd_T68 l0_1 x6_1).f1))) else (spec_MergeCircuit.j1 k1 x4_1 x6_1 a0_0 l0_1 l0_2 a0_0 x108001_1 ((rd_T68 l0_1 x6_1).f0) (rd x4_1 ((rd_T68 l0_1 x6_1).f1)) (rd x4_1 ((rd_T68 l0_1 x6_1).f2)))) else (none)) else (none)) else (none)) else (none)) = some (r1, r2, r3, r4) := by rw [if_pos rfl] at H; exact H
                    clear H
                    have H := H1
                    clear H1
                    by_cases c32 : 0 ≤ ((rd_T68 l0_1 x6_1).f1)
                    · rw [if_pos c32] at H
                      have c32b0 : decide (0 ≤ ((rd_T68 l0_1 x6_1).f1)) = true := decide_eq_true c32
                      clear c32
                      (first | rw [c32b0] | (simp only [i64_w, i32_w]; rw [c32b0]) | skip)
                      by_cases c33 : ((rd_T68 l0_1 x6_1).f1) < (x4_1.length : Int)
                      · rw [if_pos c33] at H
                        have c33b0 : decide (((rd_T68 l0_1 x6_1).f1) < (x4_1.length : Int)) = true := decide_eq_true c33
                        clear c33
                        by_cases c34 : 0 ≤ ((rd_T68 l0_1 x6_1).f2)
                        · rw [if_pos c34] at H
                          have c34b0 : decide (0 ≤ ((rd_T68 l0_1 x6_1).f2)) = true := decide_eq_true c34
                          clear c34
                          by_cases c35 : ((rd_T68 l0_1 x6_1).f2) < (x4_1.length : Int)
                          · rw [if_pos c35] at H
                            have c35b0 : decide (((rd_T68 l0_1 x6_1).f2) < (x4_1.length : Int)) = true := decide_eq_true c35
                            clear c35
                            by_cases c36 : (rd x4_1 ((rd_T68 l0_1 x6_1).f1)) > (rd x4_1 ((rd_T68 l0_1 x6_1).f2))
                            · rw [if_pos c36] at H
                              have c36b0 : decide ((rd x4_1 ((rd_T68 l0_1 x6_1).f2)) < (rd x4_1 ((rd_T68 l0_1 x6_1).f1))) = true := decide_eq_true c36
                              clear c36
                              have H' := Aside0.mk H
                              clear H
                              try go_wp2
                              have n0_ := Aside0.mk (Kd.R_drew HO_4.out)
                              have n1_ := Aside0.mk (Kd.R_drew HO_108001.out)
                              have n2_ := Aside0.mk (blk_drew BK101.out)
                              have n3_ := Aside0.mk (blk_drew BK102.out)
                              have n4_ := Aside0.mk (blk_drew BK107.out)
                              have n5_ := Aside0.mk (blk_drew BK109.out)
                              have n6_ := Aside0.mk (below_drew1 HB.out)
                              clear HO_4
                              clear HO_108001
                              clear BK101
                              clear BK102
                              clear BK107
                              clear BK109
                              clear HB
                              have HO_4 := n0_
                              have HO_108001 := n1_
                              have BK101 := n2_
                              have BK102 := n3_
                              have BK107 := n4_
                              have BK109 := n5_
                              have HB := n6_
                              clear n0_ n1_ n2_ n3_ n4_ n5_ n6_
                              obtain ⟨Ao38, co38, eo38⟩ := Kd.R_slice HO_4.out
                              (first | subst eo38 | (injection eo38 with f1_ f2_ f3_; have f4_ := f1_.symm; have f5_ := f3_.symm; clear f1_ f2_ f3_; subst f4_; subst f5_))
                              have p111 : 0 ≤ (((rd_T68 l0_1 x6_1).f1) : Int) := of_decide_eq_true (by first | (with_reducible assumption) | assumption)
                              have q111 : ((rd_T68 l0_1 x6_1).f1) < (x4_1.length : Int) := of_decide_eq_true (by first | (with_reducible assumption) | assumption)
                              obtain ⟨ad111, e111, hx111_0⟩ := Kd.at_int (Kd.R_reads' HO_4.out).2.2 ((rd_T68 l0_1 x6_1).f1) p111 q111
                              cases e111
                              replace p111 := eq_true p111
                              replace q111 := eq_true q111
                              have p112 : 0 ≤ (((rd_T68 l0_1 x6_1).f2) : Int) := of_decide_eq_true (by first | (with_reducible assumption) | assumption)
                              have q112 : ((rd_T68 l0_1 x6_1).f2) < (x4_1.length : Int) := of_decide_eq_true (by first | (with_reducible assumption) | assumption)
                              obtain ⟨ad112, e112, hx112_0⟩ := Kd.at_int (Kd.R_reads' HO_4.out).2.2 ((rd_T68 l0_1 x6_1).f2) p112 q112
                              obtain rfl : ad111 = ad112 := (by injection e112)
                              replace p112 := eq_true p112
                              replace q112 := eq_true q112
                              refine start_ (n := 14) (S := fun w' => w'.cell? ⟨gb109, 0, none⟩ = some (.int .i8 ((rd_T68 l0_1 x6_1).f0)) ∧ w'.cell? ⟨gb109, 1, none⟩ = some (.int .i16 ((rd_T68 l0_1 x6_1).f1)) ∧ w'.cell? ⟨gb109, 2, none⟩ = some (.int .i16 ((rd_T68 l0_1 x6_1).f2)) ∧ w'.cell? (ad111.add (((rd_T68 l0_1 x6_1).f1)).toNat) = some (.int .i16 (rd x4_1 ((rd_T68 l0_1 x6_1).f1))) ∧ w'.cell? (ad111.add (((rd_T68 l0_1 x6_1).f2)).toNat) = some (.int .i16 (rd x4_1 ((rd_T68 l0_1 x6_1).f2)))) (ds := [13]) #[false, false, false, false, false, false, false, false, false, false, false, false, false, false] (by kernel_rfl) rfl rfl ⟨(blk_cell BK109.out 0).trans rfl, (blk_cell BK109.out 1).trans rfl, (blk_cell BK109.out 2).trans rfl, hx111_0, hx112_0⟩ (fun hHeld => ?_); refine with_tabW spec_MergeCircuit.tab10 spec_MergeCircuit.bits10 (fun HT_ HW_ => ?_)
                              generalize w30.drew = w37 at HO_4 HO_108001 BK101 BK102 BK107 BK109 HB hx111_0 hx112_0 hHeld ⊢
                              refine pure_ (i := 0) (N := some 34) (v := ?_) (a' := ?_) #[true, false, false, false, false, false, false, false, false, false, false, false, false, false] rfl rfl (any_of HT_.out (by kernel_rfl)) (fun _ _ _ h => h) (Or.inl ⟨by rfl, ?_⟩) ?_ ?_
                              rotate_left
                              · intro w'
                                go_simp
                                with_reducible rfl
                              rotate_left
                              · simp only [Act.put, List.setIfInBounds_toArray, List.set_cons_zero, List.set_cons_succ, i64_w, i32_w]
                                rfl
                              refine pure_ (i := 2) (N := some 36) (v := ?_) (a' := ?_) #[true, false, true, false, false, false, false, false, false, false, false, false, false, false] rfl rfl (any_of HT_.out (by kernel_rfl)) (fun _ _ _ h => h) (Or.inl ⟨by rfl, ?_⟩) ?_ ?_
                              rotate_left
                              · intro w'
                                go_simp
                                with_reducible rfl
                              rotate_left
                              · simp only [Act.put, List.setIfInBounds_toArray, List.set_cons_zero, List.set_cons_succ, i64_w, i32_w]
                                rfl
                              refine pure_ (i := 3) (N := some 37) (v := ?_) (a' := ?_) #[true, false, true, true, false, false, false, false, false, false, false, false, false, false] rfl rfl (any_of HT_.out (by kernel_rfl)) (fun _ _ _ h => h) (Or.inl ⟨by rfl, ?_⟩) ?_ ?_
                              rotate_left
                              · intro w'
                                go_simp
                                with_reducible rfl
                              rotate_left
                              · simp only [Act.put, List.setIfInBounds_toArray, List.set_cons_zero, List.set_cons_succ, i64_w, i32_w]
                                rfl
                              refine pure_ (i := 7) (N := some 41) (v := ?_) (a' := ?_) #[true, false, true, true, false, false, false, true, false, false, false, false, false, false] rfl rfl (any_of HT_.out (by kernel_rfl)) (fun _ _ _ h => h) (Or.inl ⟨by rfl, ?_⟩) ?_ ?_
                              rotate_left
                              · intro w'
                                go_simp
                                with_reducible rfl
                              rotate_left
                              · simp only [Act.put, List.setIfInBounds_toArray, List.set_cons_zero, List.set_cons_succ, i64_w, i32_w]
                                rfl
                              refine pure_ (i := 8) (N := some 42) (v := ?_) (a' := ?_) #[true, false, true, true, false, false, false, true, true, false, false, false, false, false] rfl rfl (any_of HT_.out (by kernel_rfl)) (fun _ _ _ h => h) (Or.inl ⟨by rfl, ?_⟩) ?_ ?_
                              rotate_left
                              · intro w'
                                go_simp
                                with_reducible rfl
                              rotate_left
                              · simp only [Act.put, List.setIfInBounds_toArray, List.set_cons_zero, List.set_cons_succ, i64_w, i32_w]
                                rfl
                              refine take_ (i := 1) (N := some 35) (v := ?_) (a' := ?_) #[true, true, true, true, false, false, false, true, true, false, false, false, false, false] rfl rfl (take_ofW HT_.out HW_.out (by kernel_rfl)) (fun _ _ _ h => h) (Or.inl ⟨by rfl, ?_⟩) hHeld ?_ ?_
                              rotate_left
                              · rintro w' ⟨s0, s1, s2, s3, s4⟩
                                go_simp
                                with_reducible rfl
                              rotate_left
                              · simp only [Act.put, List.setIfInBounds_toArray, List.set_cons_zero, List.set_cons_succ, i64_w, i32_w]
                                rfl
                              refine take_ (i := 4) (N := some 38) (v := ?_) (a' := ?_) #[true, true, true, true, true, false, false, true, true, false, false, false, false, false] rfl rfl (take_ofW HT_.out HW_.out (by kernel_rfl)) (fun _ _ _ h => h) (Or.inl ⟨by rfl, ?_⟩) hHeld ?_ ?_
                              rotate_left
                              · rintro w' ⟨s0, s1, s2, s3, s4⟩
                                go_simp
                                with_reducible rfl
                              rotate_left
                              · simp only [Act.put, List.setIfInBounds_toArray, List.set_cons_zero, List.set_cons_succ, i64_w, i32_w]
                                rfl
                              refine pure_ (i := 5) (N := some 39) (v := ?_) (a' := ?_) #[true, true, true, true, true, true, false, true, true, false, false, false, false, false] rfl rfl (any_of HT_.out (by kernel_rfl)) (fun _ _ _ h => h) (Or.inl ⟨by rfl, ?_⟩) ?_ ?_
                              rotate_left
                              · intro w'
                                go_simp
                                with_reducible rfl
                              rotate_left
                              · simp only [Act.put, List.setIfInBounds_toArray, List.set_cons_zero, List.set_cons_succ, i64_w, i32_w]
                                rfl
                              refine take_ (i := 6) (N := some 40) (v := ?_) (a' := ?_) #[true, true, true, true, true, true, true, true, true, false, false, false, false, false] rfl rfl (take_ofW HT_.out HW_.out (by kernel_rfl)) (fun _ _ _ h => h) (Or.inl ⟨by rfl, ?_⟩) hHeld ?_ ?_
                              rotate_left
                              · rintro w' ⟨s0, s1, s2, s3, s4⟩
                                go_simp
                                with_reducible rfl
                              rotate_left
                              · simp only [Act.put, List.setIfInBounds_toArray, List.set_cons_zero, List.set_cons_succ, i64_w, i32_w]
                                rfl
                              refine take_ (i := 9) (N := some 43) (v := ?_) (a' := ?_) #[true, true, true, true, true, true, true, true, true, true, false, false, false, false] rfl rfl (take_ofW HT_.out HW_.out (by kernel_rfl)) (fun _ _ _ h => h) (Or.inl ⟨by rfl, ?_⟩) hHeld ?_ ?_
                              rotate_left
                              · rintro w' ⟨s0, s1, s2, s3, s4⟩
                                go_simp
                                with_reducible rfl
                              rotate_left
                              · simp only [Act.put, List.setIfInBounds_toArray, List.set_cons_zero, List.set_cons_succ, i64_w, i32_w]
                                rfl
                              refine pure_ (i := 10) (N := some 44) (v := ?_) (a' := ?_) #[true, true, true, true, true, true, true, true, true, true, true, false, false, false] rfl rfl (any_of HT_.out (by kernel_rfl)) (fun _ _ _ h => h) (Or.inl ⟨by rfl, ?_⟩) ?_ ?_
                              rotate_left
                              · intro w'
                                go_simp
                                with_reducible rfl
                              rotate_left
                              · simp only [Act.put, List.setIfInBounds_toArray, List.set_cons_zero, List.set_cons_succ, i64_w, i32_w]
                                rfl
                              refine take_ (i := 11) (N := some 45) (v := ?_) (a' := ?_) #[true, true, true, true, true, true, true, true, true, true, true, true, false, false] rfl rfl (take_ofW HT_.out HW_.out (by kernel_rfl)) (fun _ _ _ h => h) (Or.inl ⟨by rfl, ?_⟩) hHeld ?_ ?_
                              rotate_left
                              · rintro w' ⟨s0, s1, s2, s3, s4⟩
                                go_simp
                                with_reducible rfl
                              rotate_left
                              · simp only [Act.put, List.setIfInBounds_toArray, List.set_cons_zero, List.set_cons_succ, i64_w, i32_w]
                                rfl
                              refine pure_ (i := 12) (N := some 46) (v := ?_) (a' := ?_) #[true, true, true, true, true, true, true, true, true, true, true, true, true, false] rfl rfl (any_of HT_.out (by kernel_rfl)) (fun _ _ _ h => h) (Or.inl ⟨by rfl, ?_⟩) ?_ ?_
                              rotate_left
                              · intro w'
                                go_simp
                                with_reducible rfl
                              rotate_left
                              · simp only [Act.put, List.setIfInBounds_toArray, List.set_cons_zero, List.set_cons_succ, i64_w, i32_w]
                                rfl
                              refine last_ (i := 13) (N := none) #[true, true, true, true, true, true, true, true, true, true, true, true, true, true] rfl rfl (one_of HT_.out (by kernel_rfl)) (by decide) (fun K hK => ?_)
                              have hs39 : w37.cell? ⟨gb109, 0, none⟩ = some (.int .i8 ((rd_T68 l0_1 x6_1).f0)) := (blk_cell BK109.out 0).trans rfl
                              have hfs39 := blk_frozen BK109.out 0
                              have hns39_0 := NB101_109.out
                              have hns39_1 := NB102_109.out
                              have hns39_2 := NB107_109.out
                              have hms39_0 := NB109_101.out
                              have hms39_1 := NB109_102.out
                              have hms39_2 := NB109_107.out
                              have hs40 : w37.cell? ⟨gb109, 1, none⟩ = some (.int .i16 ((rd_T68 l0_1 x6_1).f1)) := (blk_cell BK109.out 1).trans rfl
                              have hfs40 := blk_frozen BK109.out 1
                              have hns40_0 := NB101_109.out
                              have hns40_1 := NB102_109.out
                              have hns40_2 := NB107_109.out
                              have hms40_0 := NB109_101.out
                              have hms40_1 := NB109_102.out
                              have hms40_2 := NB109_107.out
                              have hs41 : w37.cell? ⟨gb109, 2, none⟩ = some (.int .i16 ((rd_T68 l0_1 x6_1).f2)) := (blk_cell BK109.out 2).trans rfl
                              have hfs41 := blk_frozen BK109.out 2
                              have hns41_0 := NB101_109.out
                              have hns41_1 := NB102_109.out
                              have hns41_2 := NB107_109.out
                              have hms41_0 := NB109_101.out
                              have hms41_1 := NB109_102.out
                              have hms41_2 := NB109_107.out
                              refine skip_ (w1 := ?_) (by rfl) rfl ?_ ?_
                              rotate_left
                              · go_simp
                                rfl
                              refine hK.out _ _ ?_
                              clear hK K
                              refine done_ (done_of HT_.out (by kernel_rfl)) ?_
                              have hnb42 := NB109_101.out
                              have hnc42 := NB101_109.out
                              have hnb43 := NB109_102.out
                              have hnc43 := NB102_109.out
                              have hnb44 := NB109_107.out
                              have hnc44 := NB107_109.out
                              have hcz45_0 : w37.cell? ⟨gb109, 0, none⟩ = some (.int .i8 ((rd_T68 l0_1 x6_1).f0)) := (blk_cell BK109.out 0).trans rfl
                              have hcz45_1 : w37.cell? ⟨gb109, 1, none⟩ = some (.int .i16 ((rd_T68 l0_1 x6_1).f1)) := (blk_cell BK109.out 1).trans rfl
                              have hcz45_2 : w37.cell? ⟨gb109, 2, none⟩ = some (.int .i16 ((rd_T68 l0_1 x6_1).f2)) := (blk_cell BK109.out 2).trans rfl
                              have hfz45_0 := blk_frozen BK109.out 0
                              have hfz45_1 := blk_frozen BK109.out 1
                              have hfz45_2 := blk_frozen BK109.out 2
                              try go_wp2
                              go_meet
                              case rel => exact ⟨_, ((rd_T68 l0_1 x6_1).f0), (rd x4_1 ((rd_T68 l0_1 x6_1).f2)), (rd x4_1 ((rd_T68 l0_1 x6_1).f1)), H', ⟨by have := HK1.out; first | omega | exact Nat.le_refl _⟩, ⟨by (with_reducible repeat (first | apply Kd.R_alloc | apply Kd.R_drewN | apply Kd.R_drew)); exact Kd.R_mono (Kd.R_far (p := ⟨gb109, 2, none⟩) (Kd.R_far (p := ⟨gb109, 1, none⟩) (Kd.R_far (p := ⟨gb109, 0, none⟩) (Kd.R_far (p := ⟨gb109, 2, none⟩) (Kd.R_far (p := ⟨gb109, 1, none⟩) (Kd.R_far (p := ⟨gb109, 0, none⟩) (Kd.R_types HO_4.out BK109.out (by decide)) (fun _ hk => hk.2) (.int .i8 ((rd_T68 l0_1 x6_1).f0))) (fun _ hk => hk.2) (.int .i16 (rd x4_1 ((rd_T68 l0_1 x6_1).f1)))) (fun _ hk => hk.2) (.int .i16 (rd x4_1 ((rd_T68 l0_1 x6_1).f2)))) (fun _ hk => hk.2) (.int .i8 ((rd_T68 l0_1 x6_1).f0))) (fun _ hk => hk.2) (.int .i16 (rd x4_1 ((rd_T68 l0_1 x6_1).f2)))) (fun _ hk => hk.2) (.int .i16 (rd x4_1 ((rd_T68 l0_1 x6_1).f1)))) (fun _ hk => trivial)⟩, ⟨by (with_reducible repeat (first | apply Kd.R_alloc | apply Kd.R_drewN | apply Kd.R_drew)); exact Kd.R_mono (Kd.R_far (p := ⟨gb109, 2, none⟩) (Kd.R_far (p := ⟨gb109, 1, none⟩) (Kd.R_far (p := ⟨gb109, 0, none⟩) (Kd.R_far (p := ⟨gb109, 2, none⟩) (Kd.R_far (p := ⟨gb109, 1, none⟩) (Kd.R_far (p := ⟨gb109, 0, none⟩) (Kd.R_mono HO_108001.out (fun k_ hk => (⟨hk, hk.2⟩ : _ ∧ k_ ≠ gb109))) (fun _ hk => hk.2) (.int .i8 ((rd_T68 l0_1 x6_1).f0))) (fun _ hk => hk.2) (.int .i16 (rd x4_1 ((rd_T68 l0_1 x6_1).f1)))) (fun _ hk => hk.2) (.int .i16 (rd x4_1 ((rd_T68 l0_1 x6_1).f2)))) (fun _ hk => hk.2) (.int .i8 ((rd_T68 l0_1 x6_1).f0))) (fun _ hk => hk.2) (.int .i16 (rd x4_1 ((rd_T68 l0_1 x6_1).f2)))) (fun _ hk => hk.2) (.int .i16 (rd x4_1 ((rd_T68 l0_1 x6_1).f1)))) (fun _ hk => hk.1.2)⟩, ⟨by (with_reducible repeat (first | refine blk_drewN ?_ _ | refine blk_drew ?_ | refine blk_alloc ?_ _)); refine blk_far ?_ NB101_109.out _; (with_reducible repeat (first | refine blk_drewN ?_ _ | refine blk_drew ?_ | refine blk_alloc ?_ _)); refine blk_far ?_ NB101_109.out _; (with_reducible repeat (first | refine blk_drewN ?_ _ | refine blk_drew ?_ | refine blk_alloc ?_ _)); refine blk_far ?_ NB101_109.out _; (with_reducible repeat (first | refine blk_drewN ?_ _ | refine blk_drew ?_ | refine blk_alloc ?_ _)); refine blk_far ?_ NB101_109.out _; (with_reducible repeat (first | refine blk_drewN ?_ _ | refine blk_drew ?_ | refine blk_alloc ?_ _)); refine blk_far ?_ NB101_109.out _; (with_reducible repeat (first | refine blk_drewN ?_ _ | refine blk_drew ?_ | refine blk_alloc ?_ _)); refine blk_far ?_ NB101_109.out _; (with_reducible repeat (first | refine blk_drewN ?_ _ | refine blk_drew ?_ | refine blk_alloc ?_ _)); exact BK101.out⟩, ⟨by (with_reducible repeat (first | refine blk_drewN ?_ _ | refine blk_drew ?_ | refine blk_alloc ?_ _)); refine blk_far ?_ NB102_109.out _; (with_reducible repeat (first | refine blk_drewN ?_ _ | refine blk_drew ?_ | refine blk_alloc ?_ _)); refine blk_far ?_ NB102_109.out _; (with_reducible repeat (first | refine blk_drewN ?_ _ | refine blk_drew ?_ | refine blk_alloc ?_ _)); refine blk_far ?_ NB102_109.out _; (with_reducible repeat (first | refine blk_drewN ?_ _ | refine blk_drew ?_ | refine blk_alloc ?_ _)); refine blk_far ?_ NB102_109.out _; (with_reducible repeat (first | refine blk_drewN ?_ _ | refine blk_drew ?_ | refine blk_alloc ?_ _)); refine blk_far ?_ NB102_109.out _; (with_reducible repeat (first | refine blk_drewN ?_ _ | refine blk_drew ?_ | refine blk_alloc ?_ _)); refine blk_far ?_ NB102_109.out _; (with_reducible repeat (first | refine blk_drewN ?_ _ | refine blk_drew ?_ | refine blk_alloc ?_ _)); exact BK102.out⟩, ⟨by (with_reducible repeat (first | refine blk_drewN ?_ _ | refine blk_drew ?_ | refine blk_alloc ?_ _)); refine blk_far ?_ NB107_109.out _; (with_reducible repeat (first | refine blk_drewN ?_ _ | refine blk_drew ?_ | refine blk_alloc ?_ _)); refine blk_far ?_ NB107_109.out _; (with_reducible repeat (first | refine blk_drewN ?_ _ | refine blk_drew ?_ | refine blk_alloc ?_ _)); refine blk_far ?_ NB107_109.out _; (with_reducible repeat (first | refine blk_drewN ?_ _ | refine blk_drew ?_ | refine blk_alloc ?_ _)); refine blk_far ?_ NB107_109.out _; (with_reducible repeat (first | refine blk_drewN ?_ _ | refine blk_drew ?_ | refine blk_alloc ?_ _)); refine blk_far ?_ NB107_109.out _; (with_reducible repeat (first | refine blk_drewN ?_ _ | refine blk_drew ?_ | refine blk_alloc ?_ _)); refine blk_far ?_ NB107_109.out _; (with_reducible repeat (first | refine blk_drewN ?_ _ | refine blk_drew ?_ | refine blk_alloc ?_ _)); exact BK107.out⟩, ⟨by (with_reducible repeat (first | refine blk_drewN ?_ _ | refine blk_drew ?_ | refine blk_alloc ?_ _)); refine blk_put (cs := #[.int .i8 ((rd_T68 l0_1 x6_1).f0), .int .i16 (rd x4_1 ((rd_T68 l0_1 x6_1).f2)), .int .i16 (rd x4_1 ((rd_T68 l0_1 x6_1).f2))]) ?_ 2 _ rfl; (with_reducible repeat (first | refine blk_drewN ?_ _ | refine blk_drew ?_ | refine blk_alloc ?_ _)); refine blk_put (cs := #[.int .i8 ((rd_T68 l0_1 x6_1).f0), .int .i16 (rd x4_1 ((rd_T68 l0_1 x6_1).f1)), .int .i16 (rd x4_1 ((rd_T68 l0_1 x6_1).f2))]) ?_ 1 _ rfl; (with_reducible repeat (first | refine blk_drewN ?_ _ | refine blk_drew ?_ | refine blk_alloc ?_ _)); refine blk_put (cs := #[.int .i8 ((rd_T68 l0_1 x6_1).f0), .int .i16 (rd x4_1 ((rd_T68 l0_1 x6_1).f1)), .int .i16 (rd x4_1 ((rd_T68 l0_1 x6_1).f2))]) ?_ 0 _ rfl; (with_reducible repeat (first | refine blk_drewN ?_ _ | refine blk_drew ?_ | refine blk_alloc ?_ _)); refine blk_put (cs := #[.int .i8 ((rd_T68 l0_1 x6_1).f0), .int .i16 (rd x4_1 ((rd_T68 l0_1 x6_1).f1)), .int .i16 ((rd_T68 l0_1 x6_1).f2)]) ?_ 2 _ rfl; (with_reducible repeat (first | refine blk_drewN ?_ _ | refine blk_drew ?_ | refine blk_alloc ?_ _)); refine blk_put (cs := #[.int .i8 ((rd_T68 l0_1 x6_1).f0), .int .i16 ((rd_T68 l0_1 x6_1).f1), .int .i16 ((rd_T68 l0_1 x6_1).f2)]) ?_ 1 _ rfl; (with_reducible repeat (first | refine blk_drewN ?_ _ | refine blk_drew ?_ | refine blk_alloc ?_ _)); refine blk_put (cs := #[.int .i8 ((rd_T68 l0_1 x6_1).f0), .int .i16 ((rd_T68 l0_1 x6_1).f1), .int .i16 ((rd_T68 l0_1 x6_1).f2)]) ?_ 0 _ rfl; (with_reducible repeat (first | refine blk_drewN ?_ _ | refine blk_drew ?_ | refine blk_alloc ?_ _)); exact BK109.out⟩, ⟨by repeat (first | (with_reducible first | exact HB.out | apply below_alloc | apply pw_below_drewN | apply below_drew1 | refine below_set ?_ GE101.out | refine below_set ?_ GE102.out | refine below_set ?_ GE107.out | refine below_set ?_ GE109.out) | exact HB.out)⟩⟩
                            · rw [if_neg c36] at H
                              have c36b0 : decide ((rd x4_1 ((rd_T68 l0_1 x6_1).f2)) < (rd x4_1 ((rd_T68 l0_1 x6_1).f1))) = false := decide_eq_false c36
                              clear c36
                              have H' := Aside0.mk H
                              clear H
                              try go_wp2
                              have n0_ := Aside0.mk (Kd.R_drew HO_4.out)
                              have n1_ := Aside0.mk (Kd.R_drew HO_108001.out)
                              have n2_ := Aside0.mk (blk_drew BK101.out)
                              have n3_ := Aside0.mk (blk_drew BK102.out)
                              have n4_ := Aside0.mk (blk_drew BK107.out)
                              have n5_ := Aside0.mk (blk_drew BK109.out)
                              have n6_ := Aside0.mk (below_drew1 HB.out)
                              clear HO_4
                              clear HO_108001
                              clear BK101
                              clear BK102
                              clear BK107
                              clear BK109
                              clear HB
                              have HO_4 := n0_
                              have HO_108001 := n1_
                              have BK101 := n2_
                              have BK102 := n3_
                              have BK107 := n4_
                              have BK109 := n5_
                              have HB := n6_
                              clear n0_ n1_ n2_ n3_ n4_ n5_ n6_
                              obtain ⟨Ao47, co47, eo47⟩ := Kd.R_slice HO_4.out
                              (first | subst eo47 | (injection eo47 with f1_ f2_ f3_; have f4_ := f1_.symm; have f5_ := f3_.symm; clear f1_ f2_ f3_; subst f4_; subst f5_))
                              have p111 : 0 ≤ (((rd_T68 l0_1 x6_1).f1) : Int) := of_decide_eq_true (by first | (with_reducible assumption) | assumption)
                              have q111 : ((rd_T68 l0_1 x6_1).f1) < (x4_1.length : Int) := of_decide_eq_true (by first | (with_reducible assumption) | assumption)
                              obtain ⟨ad111, e111, hx111_0⟩ := Kd.at_int (Kd.R_reads' HO_4.out).2.2 ((rd_T68 l0_1 x6_1).f1) p111 q111
                              cases e111
                              replace p111 := eq_true p111
                              replace q111 := eq_true q111
                              have p112 : 0 ≤ (((rd_T68 l0_1 x6_1).f2) : Int) := of_decide_eq_true (by first | (with_reducible assumption) | assumption)
                              have q112 : ((rd_T68 l0_1 x6_1).f2) < (x4_1.length : Int) := of_decide_eq_true (by first | (with_reducible assumption) | assumption)
                              obtain ⟨ad112, e112, hx112_0⟩ := Kd.at_int (Kd.R_reads' HO_4.out).2.2 ((rd_T68 l0_1 x6_1).f2) p112 q112
                              obtain rfl : ad111 = ad112 := (by injection e112)
                              replace p112 := eq_true p112
                              replace q112 := eq_true q112
                              refine start_ (n := 14) (S := fun w' => w'.cell? ⟨gb109, 0, none⟩ = some (.int .i8 ((rd_T68 l0_1 x6_1).f0)) ∧ w'.cell? ⟨gb109, 1, none⟩ = some (.int .i16 ((rd_T68 l0_1 x6_1).f1)) ∧ w'.cell? ⟨gb109, 2, none⟩ = some (.int .i16 ((rd_T68 l0_1 x6_1).f2)) ∧ w'.cell? (ad111.add (((rd_T68 l0_1 x6_1).f1)).toNat) = some (.int .i16 (rd x4_1 ((rd_T68 l0_1 x6_1).f1))) ∧ w'.cell? (ad111.add (((rd_T68 l0_1 x6_1).f2)).toNat) = some (.int .i16 (rd x4_1 ((rd_T68 l0_1 x6_1).f2)))) (ds := [13]) #[false, false, false, false, false, false, false, false, false, false, false, false, false, false] (by kernel_rfl) rfl rfl ⟨(blk_cell BK109.out 0).trans rfl, (blk_cell BK109.out 1).trans rfl, (blk_cell BK109.out 2).trans rfl, hx111_0, hx112_0⟩ (fun hHeld => ?_); refine with_tabW spec_MergeCircuit.tab10 spec_MergeCircuit.bits10 (fun HT_ HW_ => ?_)
                              generalize w30.drew = w46 at HO_4 HO_108001 BK101 BK102 BK107 BK109 HB hx111_0 hx112_0 hHeld ⊢
                              refine pure_ (i := 0) (N := some 34) (v := ?_) (a' := ?_) #[true, false, false, false, false, false, false, false, false, false, false, false, false, false] rfl rfl (any_of HT_.out (by kernel_rfl)) (fun _ _ _ h => h) (Or.inl ⟨by rfl, ?_⟩) ?_ ?_
                              rotate_left
                              · intro w'
                                go_simp
                                with_reducible rfl
                              rotate_left
                              · simp only [Act.put, List.setIfInBounds_toArray, List.set_cons_zero, List.set_cons_succ, i64_w, i32_w]
                                rfl
                              refine pure_ (i := 2) (N := some 36) (v := ?_) (a' := ?_) #[true, false, true, false, false, false, false, false, false, false, false, false, false, false] rfl rfl (any_of HT_.out (by kernel_rfl)) (fun _ _ _ h => h) (Or.inl ⟨by rfl, ?_⟩) ?_ ?_
                              rotate_left
                              · intro w'
                                go_simp
                                with_reducible rfl
                              rotate_left
                              · simp only [Act.put, List.setIfInBounds_toArray, List.set_cons_zero, List.set_cons_succ, i64_w, i32_w]
                                rfl
                              refine pure_ (i := 3) (N := some 37) (v := ?_) (a' := ?_) #[true, false, true, true, false, false, false, false, false, false, false, false, false, false] rfl rfl (any_of HT_.out (by kernel_rfl)) (fun _ _ _ h => h) (Or.inl ⟨by rfl, ?_⟩) ?_ ?_
                              rotate_left
                              · intro w'
                                go_simp
                                with_reducible rfl
                              rotate_left
                              · simp only [Act.put, List.setIfInBounds_toArray, List.set_cons_zero, List.set_cons_succ, i64_w, i32_w]
                                rfl
                              refine pure_ (i := 7) (N := some 41) (v := ?_) (a' := ?_) #[true, false, true, true, false, false, false, true, false, false, false, false, false, false] rfl rfl (any_of HT_.out (by kernel_rfl)) (fun _ _ _ h => h) (Or.inl ⟨by rfl, ?_⟩) ?_ ?_
                              rotate_left
                              · intro w'
                                go_simp
                                with_reducible rfl
                              rotate_left
                              · simp only [Act.put, List.setIfInBounds_toArray, List.set_cons_zero, List.set_cons_succ, i64_w, i32_w]
                                rfl
                              refine pure_ (i := 8) (N := some 42) (v := ?_) (a' := ?_) #[true, false, true, true, false, false, false, true, true, false, false, false, false, false] rfl rfl (any_of HT_.out (by kernel_rfl)) (fun _ _ _ h => h) (Or.inl ⟨by rfl, ?_⟩) ?_ ?_
                              rotate_left
                              · intro w'
                                go_simp
                                with_reducible rfl
                              rotate_left
                              · simp only [Act.put, List.setIfInBounds_toArray, List.set_cons_zero, List.set_cons_succ, i64_w, i32_w]
                                rfl
                              refine take_ (i := 1) (N := some 35) (v := ?_) (a' := ?_) #[true, true, true, true, false, false, false, true, true, false, false, false, false, false] rfl rfl (take_ofW HT_.out HW_.out (by kernel_rfl)) (fun _ _ _ h => h) (Or.inl ⟨by rfl, ?_⟩) hHeld ?_ ?_
                              rotate_left
                              · rintro w' ⟨s0, s1, s2, s3, s4⟩
                                go_simp
                                with_reducible rfl
                              rotate_left
                              · simp only [Act.put, List.setIfInBounds_toArray, List.set_cons_zero, List.set_cons_succ, i64_w, i32_w]
                                rfl
                              refine take_ (i := 4) (N := some 38) (v := ?_) (a' := ?_) #[true, true, true, true, true, false, false, true, true, false, false, false, false, false] rfl rfl (take_ofW HT_.out HW_.out (by kernel_rfl)) (fun _ _ _ h => h) (Or.inl ⟨by rfl, ?_⟩) hHeld ?_ ?_
                              rotate_left
                              · rintro w' ⟨s0, s1, s2, s3, s4⟩
                                go_simp
                                with_reducible rfl
                              rotate_left
                              · simp only [Act.put, List.setIfInBounds_toArray, List.set_cons_zero, List.set_cons_succ, i64_w, i32_w]
                                rfl
                              refine pure_ (i := 5) (N := some 39) (v := ?_) (a' := ?_) #[true, true, true, true, true, true, false, true, true, false, false, false, false, false] rfl rfl (any_of HT_.out (by kernel_rfl)) (fun _ _ _ h => h) (Or.inl ⟨by rfl, ?_⟩) ?_ ?_
                              rotate_left
                              · intro w'
                                go_simp
                                with_reducible rfl
                              rotate_left
                              · simp only [Act.put, List.setIfInBounds_toArray, List.set_cons_zero, List.set_cons_succ, i64_w, i32_w]
                                rfl
                              refine take_ (i := 6) (N := some 40) (v := ?_) (a' := ?_) #[true, true, true, true, true, true, true, true, true, false, false, false, false, false] rfl rfl (take_ofW HT_.out HW_.out (by kernel_rfl)) (fun _ _ _ h => h) (Or.inl ⟨by rfl, ?_⟩) hHeld ?_ ?_
                              rotate_left
                              · rintro w' ⟨s0, s1, s2, s3, s4⟩
                                go_simp
                                with_reducible rfl
                              rotate_left
                              · simp only [Act.put, List.setIfInBounds_toArray, List.set_cons_zero, List.set_cons_succ, i64_w, i32_w]
                                rfl
                              refine take_ (i := 9) (N := some 43) (v := ?_) (a' := ?_) #[true, true, true, true, true, true, true, true, true, true, false, false, false, false] rfl rfl (take_ofW HT_.out HW_.out (by kernel_rfl)) (fun _ _ _ h => h) (Or.inl ⟨by rfl, ?_⟩) hHeld ?_ ?_
                              rotate_left
                              · rintro w' ⟨s0, s1, s2, s3, s4⟩
                                go_simp
                                with_reducible rfl
                              rotate_left
                              · simp only [Act.put, List.setIfInBounds_toArray, List.set_cons_zero, List.set_cons_succ, i64_w, i32_w]
                                rfl
                              refine pure_ (i := 10) (N := some 44) (v := ?_) (a' := ?_) #[true, true, true, true, true, true, true, true, true, true, true, false, false, false] rfl rfl (any_of HT_.out (by kernel_rfl)) (fun _ _ _ h => h) (Or.inl ⟨by rfl, ?_⟩) ?_ ?_
                              rotate_left
                              · intro w'
                                go_simp
                                with_reducible rfl
                              rotate_left
                              · simp only [Act.put, List.setIfInBounds_toArray, List.set_cons_zero, List.set_cons_succ, i64_w, i32_w]
                                rfl
                              refine take_ (i := 11) (N := some 45) (v := ?_) (a' := ?_) #[true, true, true, true, true, true, true, true, true, true, true, true, false, false] rfl rfl (take_ofW HT_.out HW_.out (by kernel_rfl)) (fun _ _ _ h => h) (Or.inl ⟨by rfl, ?_⟩) hHeld ?_ ?_
                              rotate_left
                              · rintro w' ⟨s0, s1, s2, s3, s4⟩
                                go_simp
                                with_reducible rfl
                              rotate_left
                              · simp only [Act.put, List.setIfInBounds_toArray, List.set_cons_zero, List.set_cons_succ, i64_w, i32_w]
                                rfl
                              refine pure_ (i := 12) (N := some 46) (v := ?_) (a' := ?_) #[true, true, true, true, true, true, true, true, true, true, true, true, true, false] rfl rfl (any_of HT_.out (by kernel_rfl)) (fun _ _ _ h => h) (Or.inl ⟨by rfl, ?_⟩) ?_ ?_
                              rotate_left
                              · intro w'
                                go_simp
                                with_reducible rfl
                              rotate_left
                              · simp only [Act.put, List.setIfInBounds_toArray, List.set_cons_zero, List.set_cons_succ, i64_w, i32_w]
                                rfl
                              refine last_ (i := 13) (N := none) #[true, true, true, true, true, true, true, true, true, true, true, true, true, true] rfl rfl (one_of HT_.out (by kernel_rfl)) (by decide) (fun K hK => ?_)
                              have hs48 : w46.cell? ⟨gb109, 0, none⟩ = some (.int .i8 ((rd_T68 l0_1 x6_1).f0)) := (blk_cell BK109.out 0).trans rfl
                              have hfs48 := blk_frozen BK109.out 0
                              have hns48_0 := NB101_109.out
                              have hns48_1 := NB102_109.out
                              have hns48_2 := NB107_109.out
                              have hms48_0 := NB109_101.out
                              have hms48_1 := NB109_102.out
                              have hms48_2 := NB109_107.out
                              have hs49 : w46.cell? ⟨gb109, 1, none⟩ = some (.int .i16 ((rd_T68 l0_1 x6_1).f1)) := (blk_cell BK109.out 1).trans rfl
                              have hfs49 := blk_frozen BK109.out 1
                              have hns49_0 := NB101_109.out
                              have hns49_1 := NB102_109.out
                              have hns49_2 := NB107_109.out
                              have hms49_0 := NB109_101.out
                              have hms49_1 := NB109_102.out
                              have hms49_2 := NB109_107.out
                              have hs50 : w46.cell? ⟨gb109, 2, none⟩ = some (.int .i16 ((rd_T68 l0_1 x6_1).f2)) := (blk_cell BK109.out 2).trans rfl
                              have hfs50 := blk_frozen BK109.out 2
                              have hns50_0 := NB101_109.out
                              have hns50_1 := NB102_109.out
                              have hns50_2 := NB107_109.out
                              have hms50_0 := NB109_101.out
                              have hms50_1 := NB109_102.out
                              have hms50_2 := NB109_107.out
                              refine skip_ (w1 := ?_) (by rfl) rfl ?_ ?_
                              rotate_left
                              · go_simp
                                rfl
                              refine hK.out _ _ ?_
                              clear hK K
                              refine done_ (done_of HT_.out (by kernel_rfl)) ?_
                              have hnb51 := NB109_101.out
                              have hnc51 := NB101_109.out
                              have hnb52 := NB109_102.out
                              have hnc52 := NB102_109.out
                              have hnb53 := NB109_107.out
                              have hnc53 := NB107_109.out
                              have hcz54_0 : w46.cell? ⟨gb109, 0, none⟩ = some (.int .i8 ((rd_T68 l0_1 x6_1).f0)) := (blk_cell BK109.out 0).trans rfl
                              have hcz54_1 : w46.cell? ⟨gb109, 1, none⟩ = some (.int .i16 ((rd_T68 l0_1 x6_1).f1)) := (blk_cell BK109.out 1).trans rfl
                              have hcz54_2 : w46.cell? ⟨gb109, 2, none⟩ = some (.int .i16 ((rd_T68 l0_1 x6_1).f2)) := (blk_cell BK109.out 2).trans rfl
                              have hfz54_0 := blk_frozen BK109.out 0
                              have hfz54_1 := blk_frozen BK109.out 1
                              have hfz54_2 := blk_frozen BK109.out 2
                              try go_wp2
                              go_meet
                              case rel => exact ⟨_, ((rd_T68 l0_1 x6_1).f0), (rd x4_1 ((rd_T68 l0_1 x6_1).f1)), (rd x4_1 ((rd_T68 l0_1 x6_1).f2)), H', ⟨by have := HK1.out; first | omega | exact Nat.le_refl _⟩, ⟨by (with_reducible repeat (first | apply Kd.R_alloc | apply Kd.R_drewN | apply Kd.R_drew)); exact Kd.R_mono (Kd.R_far (p := ⟨gb109, 2, none⟩) (Kd.R_far (p := ⟨gb109, 1, none⟩) (Kd.R_far (p := ⟨gb109, 0, none⟩) (Kd.R_types HO_4.out BK109.out (by decide)) (fun _ hk => hk.2) (.int .i8 ((rd_T68 l0_1 x6_1).f0))) (fun _ hk => hk.2) (.int .i16 (rd x4_1 ((rd_T68 l0_1 x6_1).f1)))) (fun _ hk => hk.2) (.int .i16 (rd x4_1 ((rd_T68 l0_1 x6_1).f2)))) (fun _ hk => trivial)⟩, ⟨by (with_reducible repeat (first | apply Kd.R_alloc | apply Kd.R_drewN | apply Kd.R_drew)); exact Kd.R_mono (Kd.R_far (p := ⟨gb109, 2, none⟩) (Kd.R_far (p := ⟨gb109, 1, none⟩) (Kd.R_far (p := ⟨gb109, 0, none⟩) (Kd.R_mono HO_108001.out (fun k_ hk => (⟨hk, hk.2⟩ : _ ∧ k_ ≠ gb109))) (fun _ hk => hk.2) (.int .i8 ((rd_T68 l0_1 x6_1).f0))) (fun _ hk => hk.2) (.int .i16 (rd x4_1 ((rd_T68 l0_1 x6_1).f1)))) (fun _ hk => hk.2) (.int .i16 (rd x4_1 ((rd_T68 l0_1 x6_1).f2)))) (fun _ hk => hk.1.2)⟩, ⟨by (with_reducible repeat (first | refine blk_drewN ?_ _ | refine blk_drew ?_ | refine blk_alloc ?_ _)); refine blk_far ?_ NB101_109.out _; (with_reducible repeat (first | refine blk_drewN ?_ _ | refine blk_drew ?_ | refine blk_alloc ?_ _)); refine blk_far ?_ NB101_109.out _; (with_reducible repeat (first | refine blk_drewN ?_ _ | refine blk_drew ?_ | refine blk_alloc ?_ _)); refine blk_far ?_ NB101_109.out _; (with_reducible repeat (first | refine blk_drewN ?_ _ | refine blk_drew ?_ | refine blk_alloc ?_ _)); exact BK101.out⟩, ⟨by (with_reducible repeat (first | refine blk_drewN ?_ _ | refine blk_drew ?_ | refine blk_alloc ?_ _)); refine blk_far ?_ NB102_109.out _; (with_reducible repeat (first | refine blk_drewN ?_ _ | refine blk_drew ?_ | refine blk_alloc ?_ _)); refine blk_far ?_ NB102_109.out _; (with_reducible repeat (first | refine blk_drewN ?_ _ | refine blk_drew ?_ | refine blk_alloc ?_ _)); refine blk_far ?_ NB102_109.out _; (with_reducible repeat (first | refine blk_drewN ?_ _ | refine blk_drew ?_ | refine blk_alloc ?_ _)); exact BK102.out⟩, ⟨by (with_reducible repeat (first | refine blk_drewN ?_ _ | refine blk_drew ?_ | refine blk_alloc ?_ _)); refine blk_far ?_ NB107_109.out _; (with_reducible repeat (first | refine blk_drewN ?_ _ | refine blk_drew ?_ | refine blk_alloc ?_ _)); refine blk_far ?_ NB107_109.out _; (with_reducible repeat (first | refine blk_drewN ?_ _ | refine blk_drew ?_ | refine blk_alloc ?_ _)); refine blk_far ?_ NB107_109.out _; (with_reducible repeat (first | refine blk_drewN ?_ _ | refine blk_drew ?_ | refine blk_alloc ?_ _)); exact BK107.out⟩, ⟨by (with_reducible repeat (first | refine blk_drewN ?_ _ | refine blk_drew ?_ | refine blk_alloc ?_ _)); refine blk_put (cs := #[.int .i8 ((rd_T68 l0_1 x6_1).f0), .int .i16 (rd x4_1 ((rd_T68 l0_1 x6_1).f1)), .int .i16 ((rd_T68 l0_1 x6_1).f2)]) ?_ 2 _ rfl; (with_reducible repeat (first | refine blk_drewN ?_ _ | refine blk_drew ?_ | refine blk_alloc ?_ _)); refine blk_put (cs := #[.int .i8 ((rd_T68 l0_1 x6_1).f0), .int .i16 ((rd_T68 l0_1 x6_1).f1), .int .i16 ((rd_T68 l0_1 x6_1).f2)]) ?_ 1 _ rfl; (with_reducible repeat (first | refine blk_drewN ?_ _ | refine blk_drew ?_ | refine blk_alloc ?_ _)); refine blk_put (cs := #[.int .i8 ((rd_T68 l0_1 x6_1).f0), .int .i16 ((rd_T68 l0_1 x6_1).f1), .int .i16 ((rd_T68 l0_1 x6_1).f2)]) ?_ 0 _ rfl; (with_reducible repeat (first | refine blk_drewN ?_ _ | refine blk_drew ?_ | refine blk_alloc ?_ _)); exact BK109.out⟩, ⟨by repeat (first | (with_reducible first | exact HB.out | apply below_alloc | apply pw_below_drewN | apply below_drew1 | refine below_set ?_ GE101.out | refine below_set ?_ GE102.out | refine below_set ?_ GE107.out | refine below_set ?_ GE109.out) | exact HB.out)⟩⟩
                          · rw [if_neg c35] at H
                            exact absurd H (by simp)
                        · rw [if_neg c34] at H
                          exact absurd H (by simp)
                      · rw [if_neg c33] at H
                        exact absurd H (by simp)
                    · rw [if_neg c32] at H
                      exact absurd H (by simp)
                  · replace c31 := Bool.eq_false_iff.mpr c31
                    subst c31
                    have H1 : (spec_MergeCircuit.j1 k1 x4_1 x6_1 a0_0 l0_1 l0_2 a0_0 x108001_1 ((rd_T68 l0_1 x6_1).f0) ((rd_T68 l0_1 x6_1).f1) ((rd_T68 l0_1 x6_1).f2)) = some (r1, r2, r3, r4) := by rw [if_neg (show ¬ (false = true) by decide)] at H; exact H
                    clear H
                    have H := H1
                    clear H1
                    have H' := Aside0.mk H
                    clear H
                    go_wp2
                    go_meet
                    case rel => exact ⟨_, ((rd_T68 l0_1 x6_1).f0), ((rd_T68 l0_1 x6_1).f1), ((rd_T68 l0_1 x6_1).f2), H', ⟨by have := HK1.out; first | omega | exact Nat.le_refl _⟩, ⟨by (with_reducible repeat (first | apply Kd.R_alloc | apply Kd.R_drewN | apply Kd.R_drew)); exact HO_4.out⟩, ⟨by (with_reducible repeat (first | apply Kd.R_alloc | apply Kd.R_drewN | apply Kd.R_drew)); exact Kd.R_mono HO_108001.out (fun _ hk => hk.2)⟩, ⟨by (with_reducible repeat (first | refine blk_drewN ?_ _ | refine blk_drew ?_ | refine blk_alloc ?_ _)); exact BK101.out⟩, ⟨by (with_reducible repeat (first | refine blk_drewN ?_ _ | refine blk_drew ?_ | refine blk_alloc ?_ _)); exact BK102.out⟩, ⟨by (with_reducible repeat (first | refine blk_drewN ?_ _ | refine blk_drew ?_ | refine blk_alloc ?_ _)); exact BK107.out⟩, ⟨by (with_reducible repeat (first | refine blk_drewN ?_ _ | refine blk_drew ?_ | refine blk_alloc ?_ _)); exact BK109.out⟩, ⟨by repeat (first | (with_reducible first | exact HB.out | apply below_alloc | apply pw_below_drewN | apply below_drew1 | refine below_set ?_ GE101.out | refine below_set ?_ GE102.out | refine below_set ?_ GE107.out | refine below_set ?_ GE109.out) | exact HB.out)⟩⟩
                case rest =>
                  clear HC21
                  try clear c1
                  try clear p1
                  try clear q1
                  try clear hx1
                  try clear c2
                  try clear p2
                  try clear c3
                  try clear c4
                  try clear c4b0
                  try clear c4b1
                  try clear c5
                  try clear c5b0
                  try clear c5b1
                  try clear c9
                  try clear p10
                  try clear q10
                  try clear hx10
                  try clear p11
                  try clear q11
                  try clear hx11
                  try clear c15
                  try clear c16
                  try clear c18
                  try clear c18b0
                  try clear c19
                  try clear c19b0
                  try clear c22
                  try clear c23
                  try clear c26
                  try clear c27
                  try clear c28
                  try clear c31
                  try clear c32
                  try clear c32b0
                  try clear c33
                  try clear c33b0
                  try clear c34
                  try clear c34b0
                  try clear c35
                  try clear c35b0
                  try clear c36
                  try clear c36b0
                  try clear c42
                  try clear c43
                  try clear c44
                  try clear c45
                  try clear c51
                  try clear c52
                  try clear c53
                  try clear hcz10_0
                  try clear hcz10_1
                  try clear hcz10_2
                  try clear hcz13_0
                  try clear hcz13_1
                  try clear hcz13_2
                  try clear hcz17_0
                  try clear hcz17_1
                  try clear hcz17_2
                  try clear hcz24_0
                  try clear hcz24_1
                  try clear hcz24_2
                  try clear hcz29_0
                  try clear hcz29_1
                  try clear hcz29_2
                  try clear hcz45_0
                  try clear hcz45_1
                  try clear hcz45_2
                  try clear hcz54_0
                  try clear hcz54_1
                  try clear hcz54_2
                  try clear hfz10_0
                  try clear hfz10_1
                  try clear hfz10_2
                  try clear hfz13_0
                  try clear hfz13_1
                  try clear hfz13_2
                  try clear hfz17_0
                  try clear hfz17_1
                  try clear hfz17_2
                  try clear hfz24_0
                  try clear hfz24_1
                  try clear hfz24_2
                  try clear hfz29_0
                  try clear hfz29_1
                  try clear hfz29_2
                  try clear hfz45_0
                  try clear hfz45_1
                  try clear hfz45_2
                  try clear hfz54_0
                  try clear hfz54_1
                  try clear hfz54_2
                  try clear hx108_0
                  try clear hx108_1
                  try clear hx108_2
                  try clear hx111_0
                  try clear hx112_0
                  try clear p108
                  try clear p111
                  try clear p112
                  try clear p2
                  try clear q108
                  try clear q111
                  try clear q112
                  obtain ⟨kq, x110000_20, x110001_20, x110002_20, HA, HJ20, HO_4, HO_108001, BK101, BK102, BK107, BK109, HB⟩ := hcut
                  cases kq with
                  | zero => exact absurd HA.out (by simp [spec_MergeCircuit.j1])
                  | succ kj20 =>
                    have H := HA.out
                    clear HA
                    simp only [spec_MergeCircuit.j1] at H
                    have H' := Aside0.mk H
                    clear H
                    go_wp2
                    go_loopg [8] kj20 (fun kq v8 w' => ∃ (x8_3 : Int), v8 = .int .i64 x8_3 ∧ Aside0 (spec_MergeCircuit.l1 kq x4_1 x6_1 x8_3 a0_0 l0_1 l0_2 a0_0 x108001_1 x110000_20 x110001_20 x110002_20 = some (r1, r2, r3, r4)) ∧ Aside0 (kq ≤ kj20) ∧ Aside0 (Kd.R (Kd.int .i16) 66 w' w.heap.size (fun _ => True) v105 x4_1) ∧ Aside0 (Kd.R k68 68 w' w.heap.size (fun k_ => k_ ≠ gb109) u108001 x108001_1) ∧ Aside0 (w'.heap[gb101]? = some (.cells #[.int .i8 a0_0, (.slice (some ad108) l0_1.length c0_1), (.slice A0_2 l0_2.length c0_2)] 30 (0, 0))) ∧ Aside0 (w'.heap[gb102]? = some (.cells #[.int .i8 0, (.slice none 0 0), (.slice none 0 0)] 30 (0, 0))) ∧ Aside0 (w'.heap[gb107]? = some (.cells #[.int .i8 a0_0, u108001, (.slice none 0 0)] 30 (0, 0))) ∧ Aside0 (w'.heap[gb109]? = some (.cells #[.int .i8 x110000_20, .int .i16 x110001_20, .int .i16 x110002_20] 68 (0, 0))) ∧ Aside0 (Below w.heap.size w w'))
                    case atStart => exact ⟨(0), (by first | rfl | (simp; done) | (simp [*]; done)), H', ⟨Nat.le_refl _⟩, ⟨by (with_reducible repeat (first | apply Kd.R_alloc | apply Kd.R_drewN | apply Kd.R_drew)); exact HO_4.out⟩, ⟨by (with_reducible repeat (first | apply Kd.R_alloc | apply Kd.R_drewN | apply Kd.R_drew)); exact HO_108001.out⟩, ⟨by (with_reducible repeat (first | refine blk_drewN ?_ _ | refine blk_drew ?_ | refine blk_alloc ?_ _)); exact BK101.out⟩, ⟨by (with_reducible repeat (first | refine blk_drewN ?_ _ | refine blk_drew ?_ | refine blk_alloc ?_ _)); exact BK102.out⟩, ⟨by (with_reducible repeat (first | refine blk_drewN ?_ _ | refine blk_drew ?_ | refine blk_alloc ?_ _)); exact BK107.out⟩, ⟨by (with_reducible repeat (first | refine blk_drewN ?_ _ | refine blk_drew ?_ | refine blk_alloc ?_ _)); exact BK109.out⟩, ⟨by repeat (first | (with_reducible first | exact HB.out | apply below_alloc | apply pw_below_drewN | apply below_drew1 | refine below_set ?_ GE101.out | refine below_set ?_ GE102.out | refine below_set ?_ GE107.out | refine below_set ?_ GE109.out) | exact HB.out)⟩⟩
                    case round =>
                      clear H'
                      try clear c1
                      try clear p1
                      try clear q1
                      try clear hx1
                      try clear c2
                      try clear p2
                      try clear c3
                      try clear c4
                      try clear c4b0
                      try clear c4b1
                      try clear c5
                      try clear c5b0
                      try clear c5b1
                      try clear c9
                      try clear p10
                      try clear q10
                      try clear hx10
                      try clear p11
                      try clear q11
                      try clear hx11
                      try clear c15
                      try clear c16
                      try clear c18
                      try clear c18b0
                      try clear c19
                      try clear c19b0
                      try clear c22
                      try clear c23
                      try clear c26
                      try clear c27
                      try clear c28
                      try clear c31
                      try clear c32
                      try clear c32b0
                      try clear c33
                      try clear c33b0
                      try clear c34
                      try clear c34b0
                      try clear c35
                      try clear c35b0
                      try clear c36
                      try clear c36b0
                      try clear c42
                      try clear c43
                      try clear c44
                      try clear c45
                      try clear c51
                      try clear c52
                      try clear c53
                      try clear hcz10_0
                      try clear hcz10_1
                      try clear hcz10_2
                      try clear hcz13_0
                      try clear hcz13_1
                      try clear hcz13_2
                      try clear hcz17_0
                      try clear hcz17_1
                      try clear hcz17_2
                      try clear hcz24_0
                      try clear hcz24_1
                      try clear hcz24_2
                      try clear hcz29_0
                      try clear hcz29_1
                      try clear hcz29_2
                      try clear hcz45_0
                      try clear hcz45_1
                      try clear hcz45_2
                      try clear hcz54_0
                      try clear hcz54_1
                      try clear hcz54_2
                      try clear hfz10_0
                      try clear hfz10_1
                      try clear hfz10_2
                      try clear hfz13_0
                      try clear hfz13_1
                      try clear hfz13_2
                      try clear hfz17_0
                      try clear hfz17_1
                      try clear hfz17_2
                      try clear hfz24_0
                      try clear hfz24_1
                      try clear hfz24_2
                      try clear hfz29_0
                      try clear hfz29_1
                      try clear hfz29_2
                      try clear hfz45_0
                      try clear hfz45_1
                      try clear hfz45_2
                      try clear hfz54_0
                      try clear hfz54_1
                      try clear hfz54_2
                      try clear hx108_0
                      try clear hx108_1
                      try clear hx108_2
                      try clear hx111_0
                      try clear hx112_0
                      try clear p1
                      try clear p10
                      try clear p108
                      try clear p11
                      try clear p111
                      try clear p112
                      try clear p2
                      try clear q1
                      try clear q10
                      try clear q108
                      try clear q11
                      try clear q111
                      try clear q112
                      obtain ⟨x8_3, rfl, HA, HK3, HO_4, HO_108001, BK101, BK102, BK107, BK109, HB⟩ := hrel
                      cases gk with
                      | zero => exact absurd HA.out (by simp [spec_MergeCircuit.l1])
                      | succ k3 =>
                        have H := HA.out
                        clear HA
                        simp only [spec_MergeCircuit.l1] at H
                        by_cases c55 : x8_3 < (x108001_1.length : Int)
                        · rw [if_pos c55] at H
                          have c55b0 : decide (x8_3 < (x108001_1.length : Int)) = true := decide_eq_true c55
                          clear c55
                          by_cases c56 : 0 ≤ x8_3
                          · rw [if_pos c56] at H
                            have c56b0 : decide (0 ≤ x8_3) = true := decide_eq_true c56
                            clear c56
                            by_cases c57 : (!(((rd_T68 x108001_1 x8_3).f0) == x110000_20) || (!(((rd_T68 x108001_1 x8_3).f1) == x110001_20) || (!(((rd_T68 x108001_1 x8_3).f2) == x110002_20)))) = true
                            · rw [if_pos c57] at H
                              have c57b0 : (!(((rd_T68 x108001_1 x8_3).f0) == x110000_20) || (!(((rd_T68 x108001_1 x8_3).f1) == x110001_20) || (!(((rd_T68 x108001_1 x8_3).f2) == x110002_20)))) = true := c57
                              clear c57
                              have H' := Aside0.mk H
                              clear H
                              try go_wp2
                              have n0_ := Aside0.mk (Kd.R_drew HO_4.out)
                              have n1_ := Aside0.mk (Kd.R_drew HO_108001.out)
                              have n2_ := Aside0.mk (blk_drew BK101.out)
                              have n3_ := Aside0.mk (blk_drew BK102.out)
                              have n4_ := Aside0.mk (blk_drew BK107.out)
                              have n5_ := Aside0.mk (blk_drew BK109.out)
                              have n6_ := Aside0.mk (below_drew1 HB.out)
                              clear HO_4
                              clear HO_108001
                              clear BK101
                              clear BK102
                              clear BK107
                              clear BK109
                              clear HB
                              have HO_4 := n0_
                              have HO_108001 := n1_
                              have BK101 := n2_
                              have BK102 := n3_
                              have BK107 := n4_
                              have BK109 := n5_
                              have HB := n6_
                              clear n0_ n1_ n2_ n3_ n4_ n5_ n6_
                              obtain ⟨Ao59, co59, eo59⟩ := Kd.R_slice HO_108001.out
                              (first | subst eo59 | (injection eo59 with f1_ f2_ f3_; have f4_ := f1_.symm; have f5_ := f3_.symm; clear f1_ f2_ f3_; subst f4_; subst f5_))
                              have p113 : 0 ≤ (x8_3 : Int) := of_decide_eq_true (by first | (with_reducible assumption) | assumption)
                              have q113 : x8_3 < (x108001_1.length : Int) := of_decide_eq_true (by first | (with_reducible assumption) | assumption)
                              obtain ⟨ad113, e113, hx113_0, hx113_1, hx113_2⟩ := at_T68 (Kd.R_reads' HO_108001.out).2.2 x8_3 p113 q113
                              cases e113
                              replace p113 := eq_true p113
                              replace q113 := eq_true q113
                              refine start_ (n := 14) (S := fun w' => w'.cell? ⟨gb107, 0, none⟩ = some (.int .i8 a0_0) ∧ w'.cell? ⟨gb107, 1, none⟩ = some (.slice (some ad113) x108001_1.length co59) ∧ w'.cell? ⟨gb107, 2, none⟩ = some (.slice none 0 0) ∧ w'.cell? ⟨gb109, 0, none⟩ = some (.int .i8 x110000_20) ∧ w'.cell? ⟨gb109, 1, none⟩ = some (.int .i16 x110001_20) ∧ w'.cell? ⟨gb109, 2, none⟩ = some (.int .i16 x110002_20) ∧ w'.cell? (ad113.add ((x8_3).toNat * 3)) = some (.int .i8 ((rd_T68 x108001_1 x8_3).f0)) ∧ w'.cell? ⟨(ad113.add ((x8_3).toNat * 3)).block, (ad113.add ((x8_3).toNat * 3)).off + 1, none⟩ = some (.int .i16 ((rd_T68 x108001_1 x8_3).f1)) ∧ w'.cell? ⟨(ad113.add ((x8_3).toNat * 3)).block, (ad113.add ((x8_3).toNat * 3)).off + 2, none⟩ = some (.int .i16 ((rd_T68 x108001_1 x8_3).f2))) (ds := []) #[false, false, false, false, false, false, false, false, false, false, false, false, false, false] (by kernel_rfl) rfl rfl ⟨(blk_cell BK107.out 0).trans rfl, (blk_cell BK107.out 1).trans rfl, (blk_cell BK107.out 2).trans rfl, (blk_cell BK109.out 0).trans rfl, (blk_cell BK109.out 1).trans rfl, (blk_cell BK109.out 2).trans rfl, hx113_0, hx113_1, hx113_2⟩ (fun hHeld => ?_); refine with_tabW spec_MergeCircuit.tab14 spec_MergeCircuit.bits14 (fun HT_ HW_ => ?_)
                              generalize wr.drew = w58 at HO_4 HO_108001 BK101 BK102 BK107 BK109 HB hx113_0 hx113_1 hx113_2 hHeld ⊢
                              refine pure_ (i := 0) (N := some 59) (v := ?_) (a' := ?_) #[true, false, false, false, false, false, false, false, false, false, false, false, false, false] rfl rfl (any_of HT_.out (by kernel_rfl)) (fun _ _ _ h => h) (Or.inl ⟨by rfl, ?_⟩) ?_ ?_
                              rotate_left
                              · intro w'
                                go_simp
                                with_reducible rfl
                              rotate_left
                              · simp only [Act.put, List.setIfInBounds_toArray, List.set_cons_zero, List.set_cons_succ, i64_w, i32_w]
                                rfl
                              refine pure_ (i := 1) (N := some 60) (v := ?_) (a' := ?_) #[true, true, false, false, false, false, false, false, false, false, false, false, false, false] rfl rfl (any_of HT_.out (by kernel_rfl)) (fun _ _ _ h => h) (Or.inl ⟨by rfl, ?_⟩) ?_ ?_
                              rotate_left
                              · intro w'
                                go_simp
                                with_reducible rfl
                              rotate_left
                              · simp only [Act.put, List.setIfInBounds_toArray, List.set_cons_zero, List.set_cons_succ, i64_w, i32_w]
                                rfl
                              refine take_ (i := 2) (N := some 61) (v := ?_) (a' := ?_) #[true, true, true, false, false, false, false, false, false, false, false, false, false, false] rfl rfl (take_ofW HT_.out HW_.out (by kernel_rfl)) (fun _ _ _ h => h) (Or.inl ⟨by rfl, ?_⟩) hHeld ?_ ?_
                              rotate_left
                              · rintro w' ⟨s0, s1, s2, s3, s4, s5, s6, s7, s8⟩
                                go_simp
                                with_reducible rfl
                              rotate_left
                              · simp only [Act.put, List.setIfInBounds_toArray, List.set_cons_zero, List.set_cons_succ, i64_w, i32_w]
                                rfl
                              refine pure_ (i := 3) (N := some 62) (v := ?_) (a' := ?_) #[true, true, true, true, false, false, false, false, false, false, false, false, false, false] rfl rfl (any_of HT_.out (by kernel_rfl)) (fun _ _ _ h => h) (Or.inl ⟨by rfl, ?_⟩) ?_ ?_
                              rotate_left
                              · intro w'
                                go_simp
                                with_reducible rfl
                              rotate_left
                              · simp only [Act.put, List.setIfInBounds_toArray, List.set_cons_zero, List.set_cons_succ, i64_w, i32_w]
                                rfl
                              refine pure_ (i := 4) (N := some 63) (v := ?_) (a' := ?_) #[true, true, true, true, true, false, false, false, false, false, false, false, false, false] rfl rfl (any_of HT_.out (by kernel_rfl)) (fun _ _ _ h => h) (Or.inl ⟨by rfl, ?_⟩) ?_ ?_
                              rotate_left
                              · intro w'
                                go_simp
                                with_reducible rfl
                              rotate_left
                              · simp only [Act.put, List.setIfInBounds_toArray, List.set_cons_zero, List.set_cons_succ, i64_w, i32_w]
                                rfl
                              refine pure_ (i := 5) (N := some 64) (v := ?_) (a' := ?_) #[true, true, true, true, true, true, false, false, false, false, false, false, false, false] rfl rfl (any_of HT_.out (by kernel_rfl)) (fun _ _ _ h => h) (Or.inl ⟨by rfl, ?_⟩) ?_ ?_
                              rotate_left
                              · intro w'
                                go_simp
                                with_reducible rfl
                              rotate_left
                              · simp only [Act.put, List.setIfInBounds_toArray, List.set_cons_zero, List.set_cons_succ, i64_w, i32_w]
                                rfl
                              refine pure_ (i := 6) (N := some 65) (v := ?_) (a' := ?_) #[true, true, true, true, true, true, true, false, false, false, false, false, false, false] rfl rfl (any_of HT_.out (by kernel_rfl)) (fun _ _ _ h => h) (Or.inl ⟨by rfl, ?_⟩) ?_ ?_
                              rotate_left
                              · intro w'
                                go_simp
                                with_reducible rfl
                              rotate_left
                              · simp only [Act.put, List.setIfInBounds_toArray, List.set_cons_zero, List.set_cons_succ, i64_w, i32_w]
                                rfl
                              refine pure_ (i := 8) (N := some 67) (v := ?_) (a' := ?_) #[true, true, true, true, true, true, true, false, true, false, false, false, false, false] rfl rfl (any_of HT_.out (by kernel_rfl)) (fun _ _ _ h => h) (Or.inl ⟨by rfl, ?_⟩) ?_ ?_
                              rotate_left
                              · intro w'
                                go_simp
                                with_reducible rfl
                              rotate_left
                              · simp only [Act.put, List.setIfInBounds_toArray, List.set_cons_zero, List.set_cons_succ, i64_w, i32_w]
                                rfl
                              refine take_ (i := 7) (N := some 66) (v := ?_) (a' := ?_) #[true, true, true, true, true, true, true, true, true, false, false, false, false, false] rfl rfl (take_ofW HT_.out HW_.out (by kernel_rfl)) (fun _ _ _ h => h) (Or.inl ⟨by rfl, ?_⟩) hHeld ?_ ?_
                              rotate_left
                              · rintro w' ⟨s0, s1, s2, s3, s4, s5, s6, s7, s8⟩
                                go_simp
                                with_reducible rfl
                              rotate_left
                              · simp only [Act.put, List.setIfInBounds_toArray, List.set_cons_zero, List.set_cons_succ, i64_w, i32_w]
                                rfl
                              refine pure_ (i := 9) (N := some 68) (v := ?_) (a' := ?_) #[true, true, true, true, true, true, true, true, true, true, false, false, false, false] rfl rfl (any_of HT_.out (by kernel_rfl)) (fun _ _ _ h => h) (Or.inl ⟨by rfl, ?_⟩) ?_ ?_
                              rotate_left
                              · intro w'
                                go_simp
                                with_reducible rfl
                              rotate_left
                              · simp only [Act.put, List.setIfInBounds_toArray, List.set_cons_zero, List.set_cons_succ, i64_w, i32_w]
                                rfl
                              refine take_ (i := 10) (N := some 69) (v := ?_) (a' := ?_) #[true, true, true, true, true, true, true, true, true, true, true, false, false, false] rfl rfl (take_ofW HT_.out HW_.out (by kernel_rfl)) (fun _ _ _ h => h) (Or.inl ⟨by rfl, ?_⟩) hHeld ?_ ?_
                              rotate_left
                              · rintro w' ⟨s0, s1, s2, s3, s4, s5, s6, s7, s8⟩
                                go_simp
                                with_reducible rfl
                              rotate_left
                              · simp only [Act.put, List.setIfInBounds_toArray, List.set_cons_zero, List.set_cons_succ, i64_w, i32_w]
                                rfl
                              refine take_ (i := 11) (N := some 70) (v := ?_) (a' := ?_) #[true, true, true, true, true, true, true, true, true, true, true, true, false, false] rfl rfl (take_ofW HT_.out HW_.out (by kernel_rfl)) (fun _ _ _ h => h) (Or.inl ⟨by rfl, ?_⟩) hHeld ?_ ?_
                              rotate_left
                              · rintro w' ⟨s0, s1, s2, s3, s4, s5, s6, s7, s8⟩
                                go_simp
                                with_reducible rfl
                              rotate_left
                              · simp only [Act.put, List.setIfInBounds_toArray, List.set_cons_zero, List.set_cons_succ, i64_w, i32_w]
                                rfl
                              refine pure_ (i := 12) (N := some 71) (v := ?_) (a' := ?_) #[true, true, true, true, true, true, true, true, true, true, true, true, true, false] rfl rfl (any_of HT_.out (by kernel_rfl)) (fun _ _ _ h => h) (Or.inl ⟨by rfl, ?_⟩) ?_ ?_
                              rotate_left
                              · intro w'
                                go_simp
                                with_reducible rfl
                              rotate_left
                              · simp only [Act.put, List.setIfInBounds_toArray, List.set_cons_zero, List.set_cons_succ, i64_w, i32_w]
                                rfl
                              refine pure_ (i := 13) (N := some 72) (v := ?_) (a' := ?_) #[true, true, true, true, true, true, true, true, true, true, true, true, true, true] rfl rfl (any_of HT_.out (by kernel_rfl)) (fun _ _ _ h => h) (Or.inl ⟨by rfl, ?_⟩) ?_ ?_
                              rotate_left
                              · intro w'
                                go_simp
                                with_reducible rfl
                              rotate_left
                              · simp only [Act.put, List.setIfInBounds_toArray, List.set_cons_zero, List.set_cons_succ, i64_w, i32_w]
                                rfl
                              refine done_ (done_of HT_.out (by kernel_rfl)) ?_
                              try go_wp2
                              go_roundg k3
                              case measure => have := HK1.out; have := HJ20.out; have := HK3.out; omega
                              case rel => exact ⟨(wrap64 (x8_3 + 1)), (by first | rfl | (simp; done) | (simp [*]; done)), H', ⟨by have := HK1.out; have := HJ20.out; have := HK3.out; omega⟩, ⟨by (with_reducible repeat (first | apply Kd.R_alloc | apply Kd.R_drewN | apply Kd.R_drew)); exact HO_4.out⟩, ⟨by (with_reducible repeat (first | apply Kd.R_alloc | apply Kd.R_drewN | apply Kd.R_drew)); exact HO_108001.out⟩, ⟨by (with_reducible repeat (first | refine blk_drewN ?_ _ | refine blk_drew ?_ | refine blk_alloc ?_ _)); exact BK101.out⟩, ⟨by (with_reducible repeat (first | refine blk_drewN ?_ _ | refine blk_drew ?_ | refine blk_alloc ?_ _)); exact BK102.out⟩, ⟨by (with_reducible repeat (first | refine blk_drewN ?_ _ | refine blk_drew ?_ | refine blk_alloc ?_ _)); exact BK107.out⟩, ⟨by (with_reducible repeat (first | refine blk_drewN ?_ _ | refine blk_drew ?_ | refine blk_alloc ?_ _)); exact BK109.out⟩, ⟨by repeat (first | (with_reducible first | exact HB.out | apply below_alloc | apply pw_below_drewN | apply below_drew1 | refine below_set ?_ GE101.out | refine below_set ?_ GE102.out | refine below_set ?_ GE107.out | refine below_set ?_ GE109.out) | exact HB.out)⟩⟩
                            · rw [if_neg c57] at H
                              have c57b0 : (!(((rd_T68 x108001_1 x8_3).f0) == x110000_20) || (!(((rd_T68 x108001_1 x8_3).f1) == x110001_20) || (!(((rd_T68 x108001_1 x8_3).f2) == x110002_20)))) = false := by simpa using c57
                              clear c57
                              by_cases c60 : x8_3 = (x108001_1.length : Int)
                              · rw [if_pos c60] at H
                                have c60b0 : (x8_3 == (x108001_1.length : Int)) = true := beq_iff_eq.mpr c60
                                have c60b1 : (x8_3 != (x108001_1.length : Int)) = false := bne_eq_false_iff_eq.mpr c60
                                clear c60
                                by_cases c61 : x108001_1.length < 23456248059221
                                · rw [if_pos c61] at H
                                  have LMc61 := Aside0.mk c61
                                  clear c61
                                  obtain ⟨y114, hy114⟩ : ∃ y_ : List (S68), y_ = (x108001_1 ++ [(⟨x110000_20, x110001_20, x110002_20⟩ : S68)]) := ⟨_, rfl⟩
                                  replace H : (if 0 ≤ x6_1 then (if x6_1 < (x4_1.length : Int) then (spec_MergeCircuit.l0 k3 (x4_1.set (x6_1 : Int).toNat (IntKind.i16.wrap (x8_3))) (wrap64 (x6_1 + 1)) a0_0 l0_1 l0_2 a0_0 y114) else (none)) else (none)) = some (r1, r2, r3, r4) := by first | (rw [hy114]; with_reducible exact H) | (have H2_ := (Option.bind_some _ _).symm.trans H; rw [hy114]; with_reducible exact H2_) | (have H2_ := (Option.bind_some _ _).symm.trans H; with_reducible exact H2_) | with_reducible exact H | (rw [hy114]; exact H) | exact H
                                  have Ny114 := Aside0.mk hy114
                                  clear hy114
                                  by_cases c62 : 0 ≤ x6_1
                                  · rw [if_pos c62] at H
                                    have c62b0 : decide (0 ≤ x6_1) = true := decide_eq_true c62
                                    clear c62
                                    by_cases c63 : x6_1 < (x4_1.length : Int)
                                    · rw [if_pos c63] at H
                                      have c63b0 : decide (x6_1 < (x4_1.length : Int)) = true := decide_eq_true c63
                                      clear c63
                                      obtain ⟨y117, hy117⟩ : ∃ y_ : List Int, y_ = (x4_1.set (x6_1 : Int).toNat (IntKind.i16.wrap (x8_3))) := ⟨_, rfl⟩
                                      replace H : (spec_MergeCircuit.l0 k3 y117 (wrap64 (x6_1 + 1)) a0_0 l0_1 l0_2 a0_0 y114) = some (r1, r2, r3, r4) := by first | (rw [hy117]; with_reducible exact H) | (have H2_ := (Option.bind_some _ _).symm.trans H; rw [hy117]; with_reducible exact H2_) | (have H2_ := (Option.bind_some _ _).symm.trans H; with_reducible exact H2_) | with_reducible exact H | (rw [hy117]; exact H) | exact H
                                      have Ny117 := Aside0.mk hy117
                                      clear hy117
                                      have H' := Aside0.mk H
                                      clear H
                                      try go_wp2
                                      have n0_ := Aside0.mk (Kd.R_drew HO_4.out)
                                      have n1_ := Aside0.mk (Kd.R_drew HO_108001.out)
                                      have n2_ := Aside0.mk (blk_drew BK101.out)
                                      have n3_ := Aside0.mk (blk_drew BK102.out)
                                      have n4_ := Aside0.mk (blk_drew BK107.out)
                                      have n5_ := Aside0.mk (blk_drew BK109.out)
                                      have n6_ := Aside0.mk (below_drew1 HB.out)
                                      clear HO_4
                                      clear HO_108001
                                      clear BK101
                                      clear BK102
                                      clear BK107
                                      clear BK109
                                      clear HB
                                      have HO_4 := n0_
                                      have HO_108001 := n1_
                                      have BK101 := n2_
                                      have BK102 := n3_
                                      have BK107 := n4_
                                      have BK109 := n5_
                                      have HB := n6_
                                      clear n0_ n1_ n2_ n3_ n4_ n5_ n6_
                                      obtain ⟨Ao66, co66, eo66⟩ := Kd.R_slice HO_108001.out
                                      (first | subst eo66 | (injection eo66 with f1_ f2_ f3_; have f4_ := f1_.symm; have f5_ := f3_.symm; clear f1_ f2_ f3_; subst f4_; subst f5_))
                                      have p113 : 0 ≤ (x8_3 : Int) := of_decide_eq_true (by first | (with_reducible assumption) | assumption)
                                      have q113 : x8_3 < (x108001_1.length : Int) := of_decide_eq_true (by first | (with_reducible assumption) | assumption)
                                      obtain ⟨ad113, e113, hx113_0, hx113_1, hx113_2⟩ := at_T68 (Kd.R_reads' HO_108001.out).2.2 x8_3 p113 q113
                                      cases e113
                                      replace p113 := eq_true p113
                                      replace q113 := eq_true q113
                                      refine start_ (n := 14) (S := fun w' => w'.cell? ⟨gb107, 0, none⟩ = some (.int .i8 a0_0) ∧ w'.cell? ⟨gb107, 1, none⟩ = some (.slice (some ad113) x108001_1.length co66) ∧ w'.cell? ⟨gb107, 2, none⟩ = some (.slice none 0 0) ∧ w'.cell? ⟨gb109, 0, none⟩ = some (.int .i8 x110000_20) ∧ w'.cell? ⟨gb109, 1, none⟩ = some (.int .i16 x110001_20) ∧ w'.cell? ⟨gb109, 2, none⟩ = some (.int .i16 x110002_20) ∧ w'.cell? (ad113.add ((x8_3).toNat * 3)) = some (.int .i8 ((rd_T68 x108001_1 x8_3).f0)) ∧ w'.cell? ⟨(ad113.add ((x8_3).toNat * 3)).block, (ad113.add ((x8_3).toNat * 3)).off + 1, none⟩ = some (.int .i16 ((rd_T68 x108001_1 x8_3).f1)) ∧ w'.cell? ⟨(ad113.add ((x8_3).toNat * 3)).block, (ad113.add ((x8_3).toNat * 3)).off + 2, none⟩ = some (.int .i16 ((rd_T68 x108001_1 x8_3).f2))) (ds := []) #[false, false, false, false, false, false, false, false, false, false, false, false, false, false] (by kernel_rfl) rfl rfl ⟨(blk_cell BK107.out 0).trans rfl, (blk_cell BK107.out 1).trans rfl, (blk_cell BK107.out 2).trans rfl, (blk_cell BK109.out 0).trans rfl, (blk_cell BK109.out 1).trans rfl, (blk_cell BK109.out 2).trans rfl, hx113_0, hx113_1, hx113_2⟩ (fun hHeld => ?_); refine with_tabW spec_MergeCircuit.tab14 spec_MergeCircuit.bits14 (fun HT_ HW_ => ?_)
                                      generalize wr.drew = w65 at HO_4 HO_108001 BK101 BK102 BK107 BK109 HB hx113_0 hx113_1 hx113_2 hHeld ⊢
                                      refine pure_ (i := 0) (N := some 59) (v := ?_) (a' := ?_) #[true, false, false, false, false, false, false, false, false, false, false, false, false, false] rfl rfl (any_of HT_.out (by kernel_rfl)) (fun _ _ _ h => h) (Or.inl ⟨by rfl, ?_⟩) ?_ ?_
                                      rotate_left
                                      · intro w'
                                        go_simp
                                        with_reducible rfl
                                      rotate_left
                                      · simp only [Act.put, List.setIfInBounds_toArray, List.set_cons_zero, List.set_cons_succ, i64_w, i32_w]
                                        rfl
                                      refine pure_ (i := 1) (N := some 60) (v := ?_) (a' := ?_) #[true, true, false, false, false, false, false, false, false, false, false, false, false, false] rfl rfl (any_of HT_.out (by kernel_rfl)) (fun _ _ _ h => h) (Or.inl ⟨by rfl, ?_⟩) ?_ ?_
                                      rotate_left
                                      · intro w'
                                        go_simp
                                        with_reducible rfl
                                      rotate_left
                                      · simp only [Act.put, List.setIfInBounds_toArray, List.set_cons_zero, List.set_cons_succ, i64_w, i32_w]
                                        rfl
                                      refine take_ (i := 2) (N := some 61) (v := ?_) (a' := ?_) #[true, true, true, false, false, false, false, false, false, false, false, false, false, false] rfl rfl (take_ofW HT_.out HW_.out (by kernel_rfl)) (fun _ _ _ h => h) (Or.inl ⟨by rfl, ?_⟩) hHeld ?_ ?_
                                      rotate_left
                                      · rintro w' ⟨s0, s1, s2, s3, s4, s5, s6, s7, s8⟩
                                        go_simp
                                        with_reducible rfl
                                      rotate_left
                                      · simp only [Act.put, List.setIfInBounds_toArray, List.set_cons_zero, List.set_cons_succ, i64_w, i32_w]
                                        rfl
                                      refine pure_ (i := 3) (N := some 62) (v := ?_) (a' := ?_) #[true, true, true, true, false, false, false, false, false, false, false, false, false, false] rfl rfl (any_of HT_.out (by kernel_rfl)) (fun _ _ _ h => h) (Or.inl ⟨by rfl, ?_⟩) ?_ ?_
                                      rotate_left
                                      · intro w'
                                        go_simp
                                        with_reducible rfl
                                      rotate_left
                                      · simp only [Act.put, List.setIfInBounds_toArray, List.set_cons_zero, List.set_cons_succ, i64_w, i32_w]
                                        rfl
                                      refine pure_ (i := 4) (N := some 63) (v := ?_) (a' := ?_) #[true, true, true, true, true, false, false, false, false, false, false, false, false, false] rfl rfl (any_of HT_.out (by kernel_rfl)) (fun _ _ _ h => h) (Or.inl ⟨by rfl, ?_⟩) ?_ ?_
                                      rotate_left
                                      · intro w'
                                        go_simp
                                        with_reducible rfl
                                      rotate_left
                                      · simp only [Act.put, List.setIfInBounds_toArray, List.set_cons_zero, List.set_cons_succ, i64_w, i32_w]
                                        rfl
                                      refine pure_ (i := 5) (N := some 64) (v := ?_) (a' := ?_) #[true, true, true, true, true, true, false, false, false, false, false, false, false, false] rfl rfl (any_of HT_.out (by kernel_rfl)) (fun _ _ _ h => h) (Or.inl ⟨by rfl, ?_⟩) ?_ ?_
                                      rotate_left
                                      · intro w'
                                        go_simp
                                        with_reducible rfl
                                      rotate_left
                                      · simp only [Act.put, List.setIfInBounds_toArray, List.set_cons_zero, List.set_cons_succ, i64_w, i32_w]
                                        rfl
                                      refine pure_ (i := 6) (N := some 65) (v := ?_) (a' := ?_) #[true, true, true, true, true, true, true, false, false, false, false, false, false, false] rfl rfl (any_of HT_.out (by kernel_rfl)) (fun _ _ _ h => h) (Or.inl ⟨by rfl, ?_⟩) ?_ ?_
                                      rotate_left
                                      · intro w'
                                        go_simp
                                        with_reducible rfl
                                      rotate_left
                                      · simp only [Act.put, List.setIfInBounds_toArray, List.set_cons_zero, List.set_cons_succ, i64_w, i32_w]
                                        rfl
                                      refine pure_ (i := 8) (N := some 67) (v := ?_) (a' := ?_) #[true, true, true, true, true, true, true, false, true, false, false, false, false, false] rfl rfl (any_of HT_.out (by kernel_rfl)) (fun _ _ _ h => h) (Or.inl ⟨by rfl, ?_⟩) ?_ ?_
                                      rotate_left
                                      · intro w'
                                        go_simp
                                        with_reducible rfl
                                      rotate_left
                                      · simp only [Act.put, List.setIfInBounds_toArray, List.set_cons_zero, List.set_cons_succ, i64_w, i32_w]
                                        rfl
                                      refine take_ (i := 7) (N := some 66) (v := ?_) (a' := ?_) #[true, true, true, true, true, true, true, true, true, false, false, false, false, false] rfl rfl (take_ofW HT_.out HW_.out (by kernel_rfl)) (fun _ _ _ h => h) (Or.inl ⟨by rfl, ?_⟩) hHeld ?_ ?_
                                      rotate_left
                                      · rintro w' ⟨s0, s1, s2, s3, s4, s5, s6, s7, s8⟩
                                        go_simp
                                        with_reducible rfl
                                      rotate_left
                                      · simp only [Act.put, List.setIfInBounds_toArray, List.set_cons_zero, List.set_cons_succ, i64_w, i32_w]
                                        rfl
                                      refine pure_ (i := 9) (N := some 68) (v := ?_) (a' := ?_) #[true, true, true, true, true, true, true, true, true, true, false, false, false, false] rfl rfl (any_of HT_.out (by kernel_rfl)) (fun _ _ _ h => h) (Or.inl ⟨by rfl, ?_⟩) ?_ ?_
                                      rotate_left
                                      · intro w'
                                        go_simp
                                        with_reducible rfl
                                      rotate_left
                                      · simp only [Act.put, List.setIfInBounds_toArray, List.set_cons_zero, List.set_cons_succ, i64_w, i32_w]
                                        rfl
                                      refine take_ (i := 10) (N := some 69) (v := ?_) (a' := ?_) #[true, true, true, true, true, true, true, true, true, true, true, false, false, false] rfl rfl (take_ofW HT_.out HW_.out (by kernel_rfl)) (fun _ _ _ h => h) (Or.inl ⟨by rfl, ?_⟩) hHeld ?_ ?_
                                      rotate_left
                                      · rintro w' ⟨s0, s1, s2, s3, s4, s5, s6, s7, s8⟩
                                        go_simp
                                        with_reducible rfl
                                      rotate_left
                                      · simp only [Act.put, List.setIfInBounds_toArray, List.set_cons_zero, List.set_cons_succ, i64_w, i32_w]
                                        rfl
                                      refine take_ (i := 11) (N := some 70) (v := ?_) (a' := ?_) #[true, true, true, true, true, true, true, true, true, true, true, true, false, false] rfl rfl (take_ofW HT_.out HW_.out (by kernel_rfl)) (fun _ _ _ h => h) (Or.inl ⟨by rfl, ?_⟩) hHeld ?_ ?_
                                      rotate_left
                                      · rintro w' ⟨s0, s1, s2, s3, s4, s5, s6, s7, s8⟩
                                        go_simp
                                        with_reducible rfl
                                      rotate_left
                                      · simp only [Act.put, List.setIfInBounds_toArray, List.set_cons_zero, List.set_cons_succ, i64_w, i32_w]
                                        rfl
                                      refine pure_ (i := 12) (N := some 71) (v := ?_) (a' := ?_) #[true, true, true, true, true, true, true, true, true, true, true, true, true, false] rfl rfl (any_of HT_.out (by kernel_rfl)) (fun _ _ _ h => h) (Or.inl ⟨by rfl, ?_⟩) ?_ ?_
                                      rotate_left
                                      · intro w'
                                        go_simp
                                        with_reducible rfl
                                      rotate_left
                                      · simp only [Act.put, List.setIfInBounds_toArray, List.set_cons_zero, List.set_cons_succ, i64_w, i32_w]
                                        rfl
                                      refine pure_ (i := 13) (N := some 72) (v := ?_) (a' := ?_) #[true, true, true, true, true, true, true, true, true, true, true, true, true, true] rfl rfl (any_of HT_.out (by kernel_rfl)) (fun _ _ _ h => h) (Or.inl ⟨by rfl, ?_⟩) ?_ ?_
                                      rotate_left
                                      · intro w'
                                        go_simp
                                        with_reducible rfl
                                      rotate_left
                                      · simp only [Act.put, List.setIfInBounds_toArray, List.set_cons_zero, List.set_cons_succ, i64_w, i32_w]
                                        rfl
                                      refine done_ (done_of HT_.out (by kernel_rfl)) ?_
                                      have hnb67 := NB107_101.out
                                      have hnc67 := NB101_107.out
                                      have hnb68 := NB107_102.out
                                      have hnc68 := NB102_107.out
                                      have hnb69 := NB107_109.out
                                      have hnc69 := NB109_107.out
                                      have hcz70_0 : w65.cell? ⟨gb107, 0, none⟩ = some (.int .i8 a0_0) := (blk_cell BK107.out 0).trans rfl
                                      have hcz70_1 : w65.cell? ⟨gb107, 1, none⟩ = some (.slice (some ad113) x108001_1.length co66) := (blk_cell BK107.out 1).trans rfl
                                      have hcz70_2 : w65.cell? ⟨gb107, 2, none⟩ = some (.slice none 0 0) := (blk_cell BK107.out 2).trans rfl
                                      have hfz70_0 := blk_frozen BK107.out 0
                                      have hfz70_1 := blk_frozen BK107.out 1
                                      have hfz70_2 := blk_frozen BK107.out 2
                                      have hnb71 := NB109_101.out
                                      have hnc71 := NB101_109.out
                                      have hnb72 := NB109_102.out
                                      have hnc72 := NB102_109.out
                                      have hcz73_0 : w65.cell? ⟨gb109, 0, none⟩ = some (.int .i8 x110000_20) := (blk_cell BK109.out 0).trans rfl
                                      have hcz73_1 : w65.cell? ⟨gb109, 1, none⟩ = some (.int .i16 x110001_20) := (blk_cell BK109.out 1).trans rfl
                                      have hcz73_2 : w65.cell? ⟨gb109, 2, none⟩ = some (.int .i16 x110002_20) := (blk_cell BK109.out 2).trans rfl
                                      have hfz73_0 := blk_frozen BK109.out 0
                                      have hfz73_1 := blk_frozen BK109.out 1
                                      have hfz73_2 := blk_frozen BK109.out 2
                                      try go_wp2_with (first | ((with_reducible refine gate_builtin (b := .append) (xs := #[.tmp 81, .tmp 83]) rfl ?_); at_builtin; refine Kd.R_append k68 (w0 := w) w.heap.size rfl (.tmp 81) (.tmp 83) 28 68 (.agg #[(.int .i8 0), (.int .i16 0), (.int .i16 0)]) 6 rfl Try.underlying28 info68 rfl (by decide) (by omega) (.slice (some ad113) x108001_1.length co66) x108001_1 (⟨x110000_20, x110001_20, x110002_20⟩ : S68) [.int .i8 x110000_20, .int .i16 x110001_20, .int .i16 x110002_20] (fun k_ => k_ ≠ gb109) (fun _ => False) rfl rfl ?aP (fun _ hk => hk.elim) ?aF ?aO ?aB ?aS ?aL ?_; (case aP => exact k68_mkM _ _ _ (⟨x110000_20, x110001_20, x110002_20⟩ : S68)); (case aB => exact (by repeat (first | (with_reducible first | exact HB.out | apply below_alloc | apply pw_below_drewN | apply below_drew1 | refine below_set ?_ GE101.out | refine below_set ?_ GE102.out | refine below_set ?_ GE107.out | refine below_set ?_ GE109.out) | exact HB.out))); (case aF => exact (fun k_ hk => Kd.freshB (g := gb109) (o := .cells #[.int .i8 x110000_20, .int .i16 x110001_20, .int .i16 x110002_20] 68 (0, 0)) (by (with_reducible repeat (first | refine blk_drewN ?_ _ | refine blk_drew ?_ | refine blk_alloc ?_ _)); exact BK109.out) k_ hk)); (case aO => exact (by (with_reducible repeat (first | apply Kd.R_alloc | apply Kd.R_drewN | apply Kd.R_drew)); exact HO_108001.out)); (case aS => exact (below_size (by repeat (first | (with_reducible first | exact HB.out | apply below_alloc | apply pw_below_drewN | apply below_drew1 | refine below_set ?_ GE101.out | refine below_set ?_ GE102.out | refine below_set ?_ GE107.out | refine below_set ?_ GE109.out) | exact HB.out)))); (case aL => have := LMc61.out; omega); intro v115 w74 ho hb hg hat; rw [← Ny114.out] at ho; have n0_ := Aside0.mk (Kd.R_over' (by (with_reducible repeat (first | apply Kd.R_alloc | apply Kd.R_drewN | apply Kd.R_drew)); exact HO_4.out) (Kd.R_typed (by (with_reducible repeat (first | apply Kd.R_alloc | apply Kd.R_drewN | apply Kd.R_drew)); exact HO_108001.out)) (by decide) hg); have n1_ := Aside0.mk (blk_grown (g := gb101) (o := .cells #[.int .i8 a0_0, .slice (some ad108) l0_1.length c0_1, .slice A0_2 l0_2.length c0_2] 30 (0, 0)) (by (with_reducible repeat (first | refine blk_drewN ?_ _ | refine blk_drew ?_ | refine blk_alloc ?_ _)); exact BK101.out) hg (Kd.R_ne HO_108001.out BK101.out (by decide))); have n2_ := Aside0.mk (blk_grown (g := gb102) (o := .cells #[.int .i8 0, .slice none 0 0, .slice none 0 0] 30 (0, 0)) (by (with_reducible repeat (first | refine blk_drewN ?_ _ | refine blk_drew ?_ | refine blk_alloc ?_ _)); exact BK102.out) hg (Kd.R_ne HO_108001.out BK102.out (by decide))); have n3_ := Aside0.mk (blk_grown (g := gb107) (o := .cells #[.int .i8 a0_0, .slice (some ad113) x108001_1.length co66, .slice none 0 0] 30 (0, 0)) (by (with_reducible repeat (first | refine blk_drewN ?_ _ | refine blk_drew ?_ | refine blk_alloc ?_ _)); exact BK107.out) hg (Kd.R_ne HO_108001.out BK107.out (by decide))); have n4_ := Aside0.mk (blk_grown (g := gb109) (o := .cells #[.int .i8 x110000_20, .int .i16 x110001_20, .int .i16 x110002_20] 68 (0, 0)) (by (with_reducible repeat (first | refine blk_drewN ?_ _ | refine blk_drew ?_ | refine blk_alloc ?_ _)); exact BK109.out) hg (Kd.R_away HO_108001.out (fun _ hk => hk))); have n5_ := Aside0.mk (hb); have n6_ := Aside0.mk (ho); clear HO_4; clear BK101; clear BK102; clear BK107; clear BK109; clear HB; clear HO_108001; have HO_4 := n0_; have BK101 := n1_; have BK102 := n2_; have BK107 := n3_; have BK109 := n4_; have HB := n5_; have HO116 := n6_; clear n0_ n1_ n2_ n3_ n4_ n5_ n6_; clear ho hb hg hat; obtain ⟨Ao75, co75, eo75⟩ := Kd.R_slice HO116.out; subst eo75; have hcz76_0 : w74.cell? ⟨gb107, 0, none⟩ = some (.int .i8 a0_0) := (blk_cell BK107.out 0).trans rfl; have hcz76_1 : w74.cell? ⟨gb107, 1, none⟩ = some (.slice (some ad113) x108001_1.length co66) := (blk_cell BK107.out 1).trans rfl; have hcz76_2 : w74.cell? ⟨gb107, 2, none⟩ = some (.slice none 0 0) := (blk_cell BK107.out 2).trans rfl; have hfz76_0 := blk_frozen BK107.out 0; have hfz76_1 := blk_frozen BK107.out 1; have hfz76_2 := blk_frozen BK107.out 2) | ((with_reducible refine gate_store (t := 28) (p := 85) rfl ?_); refine store_event (t := 28) (p := 85) (v := ?vo_w77) (w1 := (w74.setCell ⟨gb107, 1, none⟩ (.slice Ao75 y114.length co75))) ?hg ?ho ?hn ?hr ?_; (case ho => rfl); (case hg => rfl); (case hn => rfl); (case hr => first | (go_simp; done) | (go_simp; rfl)); intro w77 hw; have n0_ : Aside0 (Kd.R (Kd.int .i16) 66 w77 w.heap.size (fun _ => True) v105 x4_1) := ⟨(by rw [hw]; exact (by (with_reducible repeat (first | apply Kd.R_alloc | apply Kd.R_drewN | apply Kd.R_drew)); exact Kd.R_mono (Kd.R_far (p := ⟨gb107, 1, none⟩) (Kd.R_types HO_4.out BK107.out (by decide)) (fun _ hk => hk.2) (.slice Ao75 y114.length co75)) (fun _ hk => trivial)))⟩; have n1_ : Aside0 (Kd.R k68 68 w77 w.heap.size (fun k_ => k_ ≠ gb109) (.slice Ao75 y114.length co75) y114) := ⟨(by rw [hw]; exact (by (with_reducible repeat (first | apply Kd.R_alloc | apply Kd.R_drewN | apply Kd.R_drew)); exact Kd.R_mono (Kd.R_far (p := ⟨gb107, 1, none⟩) (Kd.R_types HO116.out BK107.out (by decide)) (fun _ hk => hk.2) (.slice Ao75 y114.length co75)) (fun _ hk => hk.1)))⟩; have n2_ : Aside0 (w77.heap[gb101]? = some (.cells #[.int .i8 a0_0, .slice (some ad108) l0_1.length c0_1, .slice A0_2 l0_2.length c0_2] 30 (0, 0))) := ⟨(by rw [hw]; exact (by (with_reducible repeat (first | refine blk_drewN ?_ _ | refine blk_drew ?_ | refine blk_alloc ?_ _)); refine blk_far ?_ NB101_107.out _; (with_reducible repeat (first | refine blk_drewN ?_ _ | refine blk_drew ?_ | refine blk_alloc ?_ _)); exact BK101.out))⟩; have n3_ : Aside0 (w77.heap[gb102]? = some (.cells #[.int .i8 0, .slice none 0 0, .slice none 0 0] 30 (0, 0))) := ⟨(by rw [hw]; exact (by (with_reducible repeat (first | refine blk_drewN ?_ _ | refine blk_drew ?_ | refine blk_alloc ?_ _)); refine blk_far ?_ NB102_107.out _; (with_reducible repeat (first | refine blk_drewN ?_ _ | refine blk_drew ?_ | refine blk_alloc ?_ _)); exact BK102.out))⟩; have n4_ : Aside0 (w77.heap[gb107]? = some (.cells #[.int .i8 a0_0, .slice Ao75 y114.length co75, .slice none 0 0] 30 (0, 0))) := ⟨(by rw [hw]; exact (by (with_reducible repeat (first | refine blk_drewN ?_ _ | refine blk_drew ?_ | refine blk_alloc ?_ _)); refine blk_put (cs := #[.int .i8 a0_0, .slice (some ad113) x108001_1.length co66, .slice none 0 0]) ?_ 1 _ rfl; (with_reducible repeat (first | refine blk_drewN ?_ _ | refine blk_drew ?_ | refine blk_alloc ?_ _)); exact BK107.out))⟩; have n5_ : Aside0 (w77.heap[gb109]? = some (.cells #[.int .i8 x110000_20, .int .i16 x110001_20, .int .i16 x110002_20] 68 (0, 0))) := ⟨(by rw [hw]; exact (by (with_reducible repeat (first | refine blk_drewN ?_ _ | refine blk_drew ?_ | refine blk_alloc ?_ _)); refine blk_far ?_ NB109_107.out _; (with_reducible repeat (first | refine blk_drewN ?_ _ | refine blk_drew ?_ | refine blk_alloc ?_ _)); exact BK109.out))⟩; have n6_ : Aside0 (Below w.heap.size w w77) := ⟨(by rw [hw]; exact (by repeat (first | (with_reducible first | exact HB.out | apply below_alloc | apply pw_below_drewN | apply below_drew1 | refine below_set ?_ GE101.out | refine below_set ?_ GE102.out | refine below_set ?_ GE107.out | refine below_set ?_ GE109.out) | exact HB.out)))⟩; clear hw; clear HO_4; clear HO116; clear BK101; clear BK102; clear BK107; clear BK109; clear HB; have HO_4 := n0_; have HO116 := n1_; have BK101 := n2_; have BK102 := n3_; have BK107 := n4_; have BK109 := n5_; have HB := n6_; clear n0_ n1_ n2_ n3_ n4_ n5_ n6_; have p64 : 0 ≤ (x6_1 : Int) := of_decide_eq_true (by first | (with_reducible assumption) | assumption); have q64 : (x6_1 : Int) < ((x4_1.length : Int) : Int) := of_decide_eq_true (by first | (with_reducible assumption) | assumption); obtain ⟨go64, co64, eo64, gb64, gl64, cl64, HG64⟩ := Kd.R_form HO_4.out (by omega); (first | cases eo64 | (injection eo64 with ea_ en_ ec_; (first | subst ea_ | (injection ea_ with ea_; subst ea_)); subst ec_; clear en_)); have GB64 := Aside0.mk gb64; have GG64 := Aside0.mk HG64; clear gb64 gl64 HG64; obtain ⟨hx64_0, hf64_0⟩ := Kd.R_celln 0 HO_4.out (x6_1 : Int) p64 q64; replace p64 := eq_true p64; replace q64 := eq_true q64; obtain ⟨hy78_, hz78_⟩ := Kd.R_celln 0 HO_4.out (x6_1 : Int) (of_decide_eq_true (by first | (with_reducible assumption) | assumption)) (of_decide_eq_true (by first | (with_reducible assumption) | assumption)); have HP78 := Kd.R_putg HO_4.out (x6_1 : Int) (IntKind.i16.wrap (x8_3))) | ((with_reducible refine gate_store (t := 66) (p := 90) rfl ?_); refine store_event (t := 66) (p := 90) (v := ?vo_w79) (w1 := (w77.setCell ⟨go64, (x6_1 : Int).toNat, none⟩ (.int .i16 (IntKind.i16.wrap (x8_3))))) ?hg ?ho ?hn ?hr ?_; (case ho => rfl); (case hg => rfl); (case hn => rfl); (case hr => first | (go_simp; done) | (go_simp; rfl)); intro w79 hw; have hg : w77.grownBy w79 (some go64) := (by rw [hw]; exact HP78.2); have hp_ : Kd.R (Kd.int .i16) 66 w79 w.heap.size (fun _ => True) (.slice (some ⟨go64, 0, none⟩) x4_1.length co64) y117 := (by rw [hw, Ny117.out]; exact HP78.1); clear HP78; have n0_ := Aside0.mk (hp_); have n1_ := Aside0.mk (blk_grown (g := gb101) (o := .cells #[.int .i8 a0_0, .slice (some ad108) l0_1.length c0_1, .slice A0_2 l0_2.length c0_2] 30 (0, 0)) (by (with_reducible repeat (first | refine blk_drewN ?_ _ | refine blk_drew ?_ | refine blk_alloc ?_ _)); exact BK101.out) hg (Kd.R_ne HO_4.out BK101.out (by decide))); have n2_ := Aside0.mk (blk_grown (g := gb102) (o := .cells #[.int .i8 0, .slice none 0 0, .slice none 0 0] 30 (0, 0)) (by (with_reducible repeat (first | refine blk_drewN ?_ _ | refine blk_drew ?_ | refine blk_alloc ?_ _)); exact BK102.out) hg (Kd.R_ne HO_4.out BK102.out (by decide))); have n3_ := Aside0.mk (blk_grown (g := gb107) (o := .cells #[.int .i8 a0_0, .slice Ao75 y114.length co75, .slice none 0 0] 30 (0, 0)) (by (with_reducible repeat (first | refine blk_drewN ?_ _ | refine blk_drew ?_ | refine blk_alloc ?_ _)); exact BK107.out) hg (Kd.R_ne HO_4.out BK107.out (by decide))); have n4_ := Aside0.mk (blk_grown (g := gb109) (o := .cells #[.int .i8 x110000_20, .int .i16 x110001_20, .int .i16 x110002_20] 68 (0, 0)) (by (with_reducible repeat (first | refine blk_drewN ?_ _ | refine blk_drew ?_ | refine blk_alloc ?_ _)); exact BK109.out) hg (Kd.R_ne HO_4.out BK109.out (by decide))); have n5_ := Aside0.mk (Kd.R_over' (v := (.slice (some ⟨go64, 0, none⟩) x4_1.length co64)) (by (with_reducible repeat (first | apply Kd.R_alloc | apply Kd.R_drewN | apply Kd.R_drew)); exact HO116.out) (Kd.R_typed HO_4.out) (by decide) hg); have n6_ := Aside0.mk ((by rw [hw]; exact below_set (HB.out) GB64.out : Below w.heap.size w w79)); clear HO_4; clear BK101; clear BK102; clear BK107; clear BK109; clear HO116; clear HB; have HO_4 := n0_; have BK101 := n1_; have BK102 := n2_; have BK107 := n3_; have BK109 := n4_; have HO116 := n5_; have HB := n6_; clear n0_ n1_ n2_ n3_ n4_ n5_ n6_; clear hg hw hp_))
                                      go_roundg k3
                                      case measure => have := HK1.out; have := HJ20.out; have := HK3.out; omega
                                      case rel => exact ⟨(y117), (wrap64 (x6_1 + 1)), (y114), (.slice Ao75 y114.length co75), (by first | rfl | (simp; done) | (simp [*]; done)), H', ⟨by have := HK1.out; have := HJ20.out; have := HK3.out; omega⟩, ⟨by (with_reducible repeat (first | apply Kd.R_alloc | apply Kd.R_drewN | apply Kd.R_drew)); exact HO_4.out⟩, ⟨by (with_reducible repeat (first | apply Kd.R_alloc | apply Kd.R_drewN | apply Kd.R_drew)); exact Kd.R_mono HO116.out (fun _ hk => trivial)⟩, ⟨by (with_reducible repeat (first | refine blk_drewN ?_ _ | refine blk_drew ?_ | refine blk_alloc ?_ _)); exact BK101.out⟩, ⟨by (with_reducible repeat (first | refine blk_drewN ?_ _ | refine blk_drew ?_ | refine blk_alloc ?_ _)); exact BK102.out⟩, ⟨by (with_reducible repeat (first | refine blk_drewN ?_ _ | refine blk_drew ?_ | refine blk_alloc ?_ _)); exact BK107.out⟩, ⟨by repeat (first | (with_reducible first | exact HB.out | apply below_alloc | apply pw_below_drewN | apply below_drew1 | refine below_set ?_ GE101.out | refine below_set ?_ GE102.out | refine below_set ?_ GE107.out | refine below_set ?_ GE109.out) | exact HB.out)⟩⟩
                                    · rw [if_neg c63] at H
                                      exact absurd H (by simp)
                                  · rw [if_neg c62] at H
                                    exact absurd H (by simp)
                                · rw [if_neg c61] at H
                                  exact absurd H (by simp)
                              · rw [if_neg c60] at H
                                have c60b0 : (x8_3 == (x108001_1.length : Int)) = false := beq_eq_false_iff_ne.mpr c60
                                have c60b1 : (x8_3 != (x108001_1.length : Int)) = true := bne_iff_ne.mpr c60
                                by_cases c80 : 0 ≤ x6_1
                                · rw [if_pos c80] at H
                                  have c80b0 : decide (0 ≤ x6_1) = true := decide_eq_true c80
                                  clear c80
                                  by_cases c81 : x6_1 < (x4_1.length : Int)
                                  · rw [if_pos c81] at H
                                    have c81b0 : decide (x6_1 < (x4_1.length : Int)) = true := decide_eq_true c81
                                    clear c81
                                    obtain ⟨y118, hy118⟩ : ∃ y_ : List Int, y_ = (x4_1.set (x6_1 : Int).toNat (IntKind.i16.wrap (x8_3))) := ⟨_, rfl⟩
                                    replace H : (spec_MergeCircuit.l0 k3 y118 (wrap64 (x6_1 + 1)) a0_0 l0_1 l0_2 a0_0 x108001_1) = some (r1, r2, r3, r4) := by first | (rw [hy118]; with_reducible exact H) | (have H2_ := (Option.bind_some _ _).symm.trans H; rw [hy118]; with_reducible exact H2_) | (have H2_ := (Option.bind_some _ _).symm.trans H; with_reducible exact H2_) | with_reducible exact H | (rw [hy118]; exact H) | exact H
                                    have Ny118 := Aside0.mk hy118
                                    clear hy118
                                    have H' := Aside0.mk H
                                    clear H
                                    try go_wp2
                                    have n0_ := Aside0.mk (Kd.R_drew HO_4.out)
                                    have n1_ := Aside0.mk (Kd.R_drew HO_108001.out)
                                    have n2_ := Aside0.mk (blk_drew BK101.out)
                                    have n3_ := Aside0.mk (blk_drew BK102.out)
                                    have n4_ := Aside0.mk (blk_drew BK107.out)
                                    have n5_ := Aside0.mk (blk_drew BK109.out)
                                    have n6_ := Aside0.mk (below_drew1 HB.out)
                                    clear HO_4
                                    clear HO_108001
                                    clear BK101
                                    clear BK102
                                    clear BK107
                                    clear BK109
                                    clear HB
                                    have HO_4 := n0_
                                    have HO_108001 := n1_
                                    have BK101 := n2_
                                    have BK102 := n3_
                                    have BK107 := n4_
                                    have BK109 := n5_
                                    have HB := n6_
                                    clear n0_ n1_ n2_ n3_ n4_ n5_ n6_
                                    obtain ⟨Ao84, co84, eo84⟩ := Kd.R_slice HO_108001.out
                                    (first | subst eo84 | (injection eo84 with f1_ f2_ f3_; have f4_ := f1_.symm; have f5_ := f3_.symm; clear f1_ f2_ f3_; subst f4_; subst f5_))
                                    have p113 : 0 ≤ (x8_3 : Int) := of_decide_eq_true (by first | (with_reducible assumption) | assumption)
                                    have q113 : x8_3 < (x108001_1.length : Int) := of_decide_eq_true (by first | (with_reducible assumption) | assumption)
                                    obtain ⟨ad113, e113, hx113_0, hx113_1, hx113_2⟩ := at_T68 (Kd.R_reads' HO_108001.out).2.2 x8_3 p113 q113
                                    cases e113
                                    replace p113 := eq_true p113
                                    replace q113 := eq_true q113
                                    refine start_ (n := 14) (S := fun w' => w'.cell? ⟨gb107, 0, none⟩ = some (.int .i8 a0_0) ∧ w'.cell? ⟨gb107, 1, none⟩ = some (.slice (some ad113) x108001_1.length co84) ∧ w'.cell? ⟨gb107, 2, none⟩ = some (.slice none 0 0) ∧ w'.cell? ⟨gb109, 0, none⟩ = some (.int .i8 x110000_20) ∧ w'.cell? ⟨gb109, 1, none⟩ = some (.int .i16 x110001_20) ∧ w'.cell? ⟨gb109, 2, none⟩ = some (.int .i16 x110002_20) ∧ w'.cell? (ad113.add ((x8_3).toNat * 3)) = some (.int .i8 ((rd_T68 x108001_1 x8_3).f0)) ∧ w'.cell? ⟨(ad113.add ((x8_3).toNat * 3)).block, (ad113.add ((x8_3).toNat * 3)).off + 1, none⟩ = some (.int .i16 ((rd_T68 x108001_1 x8_3).f1)) ∧ w'.cell? ⟨(ad113.add ((x8_3).toNat * 3)).block, (ad113.add ((x8_3).toNat * 3)).off + 2, none⟩ = some (.int .i16 ((rd_T68 x108001_1 x8_3).f2))) (ds := []) #[false, false, false, false, false, false, false, false, false, false, false, false, false, false] (by kernel_rfl) rfl rfl ⟨(blk_cell BK107.out 0).trans rfl, (blk_cell BK107.out 1).trans rfl, (blk_cell BK107.out 2).trans rfl, (blk_cell BK109.out 0).trans rfl, (blk_cell BK109.out 1).trans rfl, (blk_cell BK109.out 2).trans rfl, hx113_0, hx113_1, hx113_2⟩ (fun hHeld => ?_); refine with_tabW spec_MergeCircuit.tab14 spec_MergeCircuit.bits14 (fun HT_ HW_ => ?_)
                                    generalize wr.drew = w83 at HO_4 HO_108001 BK101 BK102 BK107 BK109 HB hx113_0 hx113_1 hx113_2 hHeld ⊢
                                    refine pure_ (i := 0) (N := some 59) (v := ?_) (a' := ?_) #[true, false, false, false, false, false, false, false, false, false, false, false, false, false] rfl rfl (any_of HT_.out (by kernel_rfl)) (fun _ _ _ h => h) (Or.inl ⟨by rfl, ?_⟩) ?_ ?_
                                    rotate_left
                                    · intro w'
                                      go_simp
                                      with_reducible rfl
                                    rotate_left
                                    · simp only [Act.put, List.setIfInBounds_toArray, List.set_cons_zero, List.set_cons_succ, i64_w, i32_w]
                                      rfl
                                    refine pure_ (i := 1) (N := some 60) (v := ?_) (a' := ?_) #[true, true, false, false, false, false, false, false, false, false, false, false, false, false] rfl rfl (any_of HT_.out (by kernel_rfl)) (fun _ _ _ h => h) (Or.inl ⟨by rfl, ?_⟩) ?_ ?_
                                    rotate_left
                                    · intro w'
                                      go_simp
                                      with_reducible rfl
                                    rotate_left
                                    · simp only [Act.put, List.setIfInBounds_toArray, List.set_cons_zero, List.set_cons_succ, i64_w, i32_w]
                                      rfl
                                    refine take_ (i := 2) (N := some 61) (v := ?_) (a' := ?_) #[true, true, true, false, false, false, false, false, false, false, false, false, false, false] rfl rfl (take_ofW HT_.out HW_.out (by kernel_rfl)) (fun _ _ _ h => h) (Or.inl ⟨by rfl, ?_⟩) hHeld ?_ ?_
                                    rotate_left
                                    · rintro w' ⟨s0, s1, s2, s3, s4, s5, s6, s7, s8⟩
                                      go_simp
                                      with_reducible rfl
                                    rotate_left
                                    · simp only [Act.put, List.setIfInBounds_toArray, List.set_cons_zero, List.set_cons_succ, i64_w, i32_w]
                                      rfl
                                    refine pure_ (i := 3) (N := some 62) (v := ?_) (a' := ?_) #[true, true, true, true, false, false, false, false, false, false, false, false, false, false] rfl rfl (any_of HT_.out (by kernel_rfl)) (fun _ _ _ h => h) (Or.inl ⟨by rfl, ?_⟩) ?_ ?_
                                    rotate_left
                                    · intro w'
                                      go_simp
                                      with_reducible rfl
                                    rotate_left
                                    · simp only [Act.put, List.setIfInBounds_toArray, List.set_cons_zero, List.set_cons_succ, i64_w, i32_w]
                                      rfl
                                    refine pure_ (i := 4) (N := some 63) (v := ?_) (a' := ?_) #[true, true, true, true, true, false, false, false, false, false, false, false, false, false] rfl rfl (any_of HT_.out (by kernel_rfl)) (fun _ _ _ h => h) (Or.inl ⟨by rfl, ?_⟩) ?_ ?_
                                    rotate_left
                                    · intro w'
                                      go_simp
                                      with_reducible rfl
                                    rotate_left
                                    · simp only [Act.put, List.setIfInBounds_toArray, List.set_cons_zero, List.set_cons_succ, i64_w, i32_w]
                                      rfl
                                    refine pure_ (i := 5) (N := some 64) (v := ?_) (a' := ?_) #[true, true, true, true, true, true, false, false, false, false, false, false, false, false] rfl rfl (any_of HT_.out (by kernel_rfl)) (fun _ _ _ h => h) (Or.inl ⟨by rfl, ?_⟩) ?_ ?_
                                    rotate_left
                                    · intro w'
                                      go_simp
                                      with_reducible rfl
                                    rotate_left
                                    · simp only [Act.put, List.setIfInBounds_toArray, List.set_cons_zero, List.set_cons_succ, i64_w, i32_w]
                                      rfl
                                    refine pure_ (i := 6) (N := some 65) (v := ?_) (a' := ?_) #[true, true, true, true, true, true, true, false, false, false, false, false, false, false] rfl rfl (any_of HT_.out (by kernel_rfl)) (fun _ _ _ h => h) (Or.inl ⟨by rfl, ?_⟩) ?_ ?_
                                    rotate_left
                                    · intro w'
                                      go_simp
                                      with_reducible rfl
                                    rotate_left
                                    · simp only [Act.put, List.setIfInBounds_toArray, List.set_cons_zero, List.set_cons_succ, i64_w, i32_w]
                                      rfl
                                    refine pure_ (i := 8) (N := some 67) (v := ?_) (a' := ?_) #[true, true, true, true, true, true, true, false, true, false, false, false, false, false] rfl rfl (any_of HT_.out (by kernel_rfl)) (fun _ _ _ h => h) (Or.inl ⟨by rfl, ?_⟩) ?_ ?_
                                    rotate_left
                                    · intro w'
                                      go_simp
                                      with_reducible rfl
                                    rotate_left
                                    · simp only [Act.put, List.setIfInBounds_toArray, List.set_cons_zero, List.set_cons_succ, i64_w, i32_w]
                                      rfl
                                    refine take_ (i := 7) (N := some 66) (v := ?_) (a' := ?_) #[true, true, true, true, true, true, true, true, true, false, false, false, false, false] rfl rfl (take_ofW HT_.out HW_.out (by kernel_rfl)) (fun _ _ _ h => h) (Or.inl ⟨by rfl, ?_⟩) hHeld ?_ ?_
                                    rotate_left
                                    · rintro w' ⟨s0, s1, s2, s3, s4, s5, s6, s7, s8⟩
                                      go_simp
                                      with_reducible rfl
                                    rotate_left
                                    · simp only [Act.put, List.setIfInBounds_toArray, List.set_cons_zero, List.set_cons_succ, i64_w, i32_w]
                                      rfl
                                    refine pure_ (i := 9) (N := some 68) (v := ?_) (a' := ?_) #[true, true, true, true, true, true, true, true, true, true, false, false, false, false] rfl rfl (any_of HT_.out (by kernel_rfl)) (fun _ _ _ h => h) (Or.inl ⟨by rfl, ?_⟩) ?_ ?_
                                    rotate_left
                                    · intro w'
                                      go_simp
                                      with_reducible rfl
                                    rotate_left
                                    · simp only [Act.put, List.setIfInBounds_toArray, List.set_cons_zero, List.set_cons_succ, i64_w, i32_w]
                                      rfl
                                    refine take_ (i := 10) (N := some 69) (v := ?_) (a' := ?_) #[true, true, true, true, true, true, true, true, true, true, true, false, false, false] rfl rfl (take_ofW HT_.out HW_.out (by kernel_rfl)) (fun _ _ _ h => h) (Or.inl ⟨by rfl, ?_⟩) hHeld ?_ ?_
                                    rotate_left
                                    · rintro w' ⟨s0, s1, s2, s3, s4, s5, s6, s7, s8⟩
                                      go_simp
                                      with_reducible rfl
                                    rotate_left
                                    · simp only [Act.put, List.setIfInBounds_toArray, List.set_cons_zero, List.set_cons_succ, i64_w, i32_w]
                                      rfl
                                    refine take_ (i := 11) (N := some 70) (v := ?_) (a' := ?_) #[true, true, true, true, true, true, true, true, true, true, true, true, false, false] rfl rfl (take_ofW HT_.out HW_.out (by kernel_rfl)) (fun _ _ _ h => h) (Or.inl ⟨by rfl, ?_⟩) hHeld ?_ ?_
                                    rotate_left
                                    · rintro w' ⟨s0, s1, s2, s3, s4, s5, s6, s7, s8⟩
                                      go_simp
                                      with_reducible rfl
                                    rotate_left
                                    · simp only [Act.put, List.setIfInBounds_toArray, List.set_cons_zero, List.set_cons_succ, i64_w, i32_w]
                                      rfl
                                    refine pure_ (i := 12) (N := some 71) (v := ?_) (a' := ?_) #[true, true, true, true, true, true, true, true, true, true, true, true, true, false] rfl rfl (any_of HT_.out (by kernel_rfl)) (fun _ _ _ h => h) (Or.inl ⟨by rfl, ?_⟩) ?_ ?_
                                    rotate_left
                                    · intro w'
                                      go_simp
                                      with_reducible rfl
                                    rotate_left
                                    · simp only [Act.put, List.setIfInBounds_toArray, List.set_cons_zero, List.set_cons_succ, i64_w, i32_w]
                                      rfl
                                    refine pure_ (i := 13) (N := some 72) (v := ?_) (a' := ?_) #[true, true, true, true, true, true, true, true, true, true, true, true, true, true] rfl rfl (any_of HT_.out (by kernel_rfl)) (fun _ _ _ h => h) (Or.inl ⟨by rfl, ?_⟩) ?_ ?_
                                    rotate_left
                                    · intro w'
                                      go_simp
                                      with_reducible rfl
                                    rotate_left
                                    · simp only [Act.put, List.setIfInBounds_toArray, List.set_cons_zero, List.set_cons_succ, i64_w, i32_w]
                                      rfl
                                    refine done_ (done_of HT_.out (by kernel_rfl)) ?_
                                    have hnb85 := NB107_101.out
                                    have hnc85 := NB101_107.out
                                    have hnb86 := NB107_102.out
                                    have hnc86 := NB102_107.out
                                    have hnb87 := NB107_109.out
                                    have hnc87 := NB109_107.out
                                    have hcz88_0 : w83.cell? ⟨gb107, 0, none⟩ = some (.int .i8 a0_0) := (blk_cell BK107.out 0).trans rfl
                                    have hcz88_1 : w83.cell? ⟨gb107, 1, none⟩ = some (.slice (some ad113) x108001_1.length co84) := (blk_cell BK107.out 1).trans rfl
                                    have hcz88_2 : w83.cell? ⟨gb107, 2, none⟩ = some (.slice none 0 0) := (blk_cell BK107.out 2).trans rfl
                                    have hfz88_0 := blk_frozen BK107.out 0
                                    have hfz88_1 := blk_frozen BK107.out 1
                                    have hfz88_2 := blk_frozen BK107.out 2
                                    have p82 : 0 ≤ (x6_1 : Int) := of_decide_eq_true (by first | (with_reducible assumption) | assumption)
                                    have q82 : (x6_1 : Int) < ((x4_1.length : Int) : Int) := of_decide_eq_true (by first | (with_reducible assumption) | assumption)
                                    obtain ⟨go82, co82, eo82, gb82, gl82, cl82, HG82⟩ := Kd.R_form HO_4.out (by omega)
                                    (first | cases eo82 | (injection eo82 with ea_ en_ ec_; (first | subst ea_ | (injection ea_ with ea_; subst ea_)); subst ec_; clear en_))
                                    have GB82 := Aside0.mk gb82
                                    have GG82 := Aside0.mk HG82
                                    clear gb82 gl82 HG82
                                    obtain ⟨hx82_0, hf82_0⟩ := Kd.R_celln 0 HO_4.out (x6_1 : Int) p82 q82
                                    replace p82 := eq_true p82
                                    replace q82 := eq_true q82
                                    obtain ⟨hy89_, hz89_⟩ := Kd.R_celln 0 HO_4.out (x6_1 : Int) (of_decide_eq_true (by first | (with_reducible assumption) | assumption)) (of_decide_eq_true (by first | (with_reducible assumption) | assumption))
                                    have HP89 := Kd.R_putg HO_4.out (x6_1 : Int) (IntKind.i16.wrap (x8_3))
                                    try go_wp2_with (first | ((with_reducible refine gate_store (t := 66) (p := 90) rfl ?_); refine store_event (t := 66) (p := 90) (v := ?vo_w90) (w1 := (w83.setCell ⟨go82, (x6_1 : Int).toNat, none⟩ (.int .i16 (IntKind.i16.wrap (x8_3))))) ?hg ?ho ?hn ?hr ?_; (case ho => rfl); (case hg => rfl); (case hn => rfl); (case hr => first | (go_simp; done) | (go_simp; rfl)); intro w90 hw; have hg : w83.grownBy w90 (some go82) := (by rw [hw]; exact HP89.2); have hp_ : Kd.R (Kd.int .i16) 66 w90 w.heap.size (fun _ => True) (.slice (some ⟨go82, 0, none⟩) x4_1.length co82) y118 := (by rw [hw, Ny118.out]; exact HP89.1); clear HP89; have n0_ := Aside0.mk (hp_); have n1_ := Aside0.mk (Kd.R_over' (v := (.slice (some ⟨go82, 0, none⟩) x4_1.length co82)) (by (with_reducible repeat (first | apply Kd.R_alloc | apply Kd.R_drewN | apply Kd.R_drew)); exact HO_108001.out) (Kd.R_typed HO_4.out) (by decide) hg); have n2_ := Aside0.mk (blk_grown (g := gb101) (o := .cells #[.int .i8 a0_0, .slice (some ad108) l0_1.length c0_1, .slice A0_2 l0_2.length c0_2] 30 (0, 0)) (by (with_reducible repeat (first | refine blk_drewN ?_ _ | refine blk_drew ?_ | refine blk_alloc ?_ _)); exact BK101.out) hg (Kd.R_ne HO_4.out BK101.out (by decide))); have n3_ := Aside0.mk (blk_grown (g := gb102) (o := .cells #[.int .i8 0, .slice none 0 0, .slice none 0 0] 30 (0, 0)) (by (with_reducible repeat (first | refine blk_drewN ?_ _ | refine blk_drew ?_ | refine blk_alloc ?_ _)); exact BK102.out) hg (Kd.R_ne HO_4.out BK102.out (by decide))); have n4_ := Aside0.mk (blk_grown (g := gb107) (o := .cells #[.int .i8 a0_0, .slice (some ad113) x108001_1.length co84, .slice none 0 0] 30 (0, 0)) (by (with_reducible repeat (first | refine blk_drewN ?_ _ | refine blk_drew ?_ | refine blk_alloc ?_ _)); exact BK107.out) hg (Kd.R_ne HO_4.out BK107.out (by decide))); have n5_ := Aside0.mk (blk_grown (g := gb109) (o := .cells #[.int .i8 x110000_20, .int .i16 x110001_20, .int .i16 x110002_20] 68 (0, 0)) (by (with_reducible repeat (first | refine blk_drewN ?_ _ | refine blk_drew ?_ | refine blk_alloc ?_ _)); exact BK109.out) hg (Kd.R_ne HO_4.out BK109.out (by decide))); have n6_ := Aside0.mk ((by rw [hw]; exact below_set (HB.out) GB82.out : Below w.heap.size w w90)); clear HO_4; clear HO_108001; clear BK101; clear BK102; clear BK107; clear BK109; clear HB; have HO_4 := n0_; have HO_108001 := n1_; have BK101 := n2_; have BK102 := n3_; have BK107 := n4_; have BK109 := n5_; have HB := n6_; clear n0_ n1_ n2_ n3_ n4_ n5_ n6_; clear hg hw hp_))
                                    go_roundg k3
                                    case measure => have := HK1.out; have := HJ20.out; have := HK3.out; omega
                                    case rel => exact ⟨(y118), (wrap64 (x6_1 + 1)), (x108001_1), (.slice (some ad113) x108001_1.length co84), (by first | rfl | (simp; done) | (simp [*]; done)), H', ⟨by have := HK1.out; have := HJ20.out; have := HK3.out; omega⟩, ⟨by (with_reducible repeat (first | apply Kd.R_alloc | apply Kd.R_drewN | apply Kd.R_drew)); exact HO_4.out⟩, ⟨by (with_reducible repeat (first | apply Kd.R_alloc | apply Kd.R_drewN | apply Kd.R_drew)); exact Kd.R_mono HO_108001.out (fun _ hk => trivial)⟩, ⟨by (with_reducible repeat (first | refine blk_drewN ?_ _ | refine blk_drew ?_ | refine blk_alloc ?_ _)); exact BK101.out⟩, ⟨by (with_reducible repeat (first | refine blk_drewN ?_ _ | refine blk_drew ?_ | refine blk_alloc ?_ _)); exact BK102.out⟩, ⟨by (with_reducible repeat (first | refine blk_drewN ?_ _ | refine blk_drew ?_ | refine blk_alloc ?_ _)); exact BK107.out⟩, ⟨by repeat (first | (with_reducible first | exact HB.out | apply below_alloc | apply pw_below_drewN | apply below_drew1 | refine below_set ?_ GE101.out | refine below_set ?_ GE102.out | refine below_set ?_ GE107.out | refine below_set ?_ GE109.out) | exact HB.out)⟩⟩
                                  · rw [if_neg c81] at H
                                    exact absurd H (by simp)
                                · rw [if_neg c80] at H
                                  exact absurd H (by simp)
                          · rw [if_neg c56] at H
                            exact absurd H (by simp)
                        · rw [if_neg c55] at H
                          have c55b0 : decide (x8_3 < (x108001_1.length : Int)) = false := decide_eq_false c55
                          clear c55
                          by_cases c91 : x8_3 = (x108001_1.length : Int)
                          · rw [if_pos c91] at H
                            have c91b0 : (x8_3 == (x108001_1.length : Int)) = true := beq_iff_eq.mpr c91
                            have c91b1 : (x8_3 != (x108001_1.length : Int)) = false := bne_eq_false_iff_eq.mpr c91
                            clear c91
                            by_cases c92 : x108001_1.length < 23456248059221
                            · rw [if_pos c92] at H
                              have LMc92 := Aside0.mk c92
                              clear c92
                              obtain ⟨y119, hy119⟩ : ∃ y_ : List (S68), y_ = (x108001_1 ++ [(⟨x110000_20, x110001_20, x110002_20⟩ : S68)]) := ⟨_, rfl⟩
                              replace H : (if 0 ≤ x6_1 then (if x6_1 < (x4_1.length : Int) then (spec_MergeCircuit.l0 k3 (x4_1.set (x6_1 : Int).toNat (IntKind.i16.wrap (x8_3))) (wrap64 (x6_1 + 1)) a0_0 l0_1 l0_2 a0_0 y119) else (none)) else (none)) = some (r1, r2, r3, r4) := by first | (rw [hy119]; with_reducible exact H) | (have H2_ := (Option.bind_some _ _).symm.trans H; rw [hy119]; with_reducible exact H2_) | (have H2_ := (Option.bind_some _ _).symm.trans H; with_reducible exact H2_) | with_reducible exact H | (rw [hy119]; exact H) | exact H
                              have Ny119 := Aside0.mk hy119
                              clear hy119
                              by_cases c93 : 0 ≤ x6_1
                              · rw [if_pos c93] at H
                                have c93b0 : decide (0 ≤ x6_1) = true := decide_eq_true c93
                                clear c93
                                by_cases c94 : x6_1 < (x4_1.length : Int)
                                · rw [if_pos c94] at H
                                  have c94b0 : decide (x6_1 < (x4_1.length : Int)) = true := decide_eq_true c94
                                  clear c94
                                  obtain ⟨y122, hy122⟩ : ∃ y_ : List Int, y_ = (x4_1.set (x6_1 : Int).toNat (IntKind.i16.wrap (x8_3))) := ⟨_, rfl⟩
                                  replace H : (spec_MergeCircuit.l0 k3 y122 (wrap64 (x6_1 + 1)) a0_0 l0_1 l0_2 a0_0 y119) = some (r1, r2, r3, r4) := by first | (rw [hy122]; with_reducible exact H) | (have H2_ := (Option.bind_some _ _).symm.trans H; rw [hy122]; with_reducible exact H2_) | (have H2_ := (Option.bind_some _ _).symm.trans H; with_reducible exact H2_) | with_reducible exact H | (rw [hy122]; exact H) | exact H
                                  have Ny122 := Aside0.mk hy122
                                  clear hy122
                                  have H' := Aside0.mk H
                                  clear H
                                  try go_wp2
                                  have n0_ := Aside0.mk (Kd.R_drew HO_4.out)
                                  have n1_ := Aside0.mk (Kd.R_drew HO_108001.out)
                                  have n2_ := Aside0.mk (blk_drew BK101.out)
                                  have n3_ := Aside0.mk (blk_drew BK102.out)
                                  have n4_ := Aside0.mk (blk_drew BK107.out)
                                  have n5_ := Aside0.mk (blk_drew BK109.out)
                                  have n6_ := Aside0.mk (below_drew1 HB.out)
                                  clear HO_4
                                  clear HO_108001
                                  clear BK101
                                  clear BK102
                                  clear BK107
                                  clear BK109
                                  clear HB
                                  have HO_4 := n0_
                                  have HO_108001 := n1_
                                  have BK101 := n2_
                                  have BK102 := n3_
                                  have BK107 := n4_
                                  have BK109 := n5_
                                  have HB := n6_
                                  clear n0_ n1_ n2_ n3_ n4_ n5_ n6_
                                  obtain ⟨Ao97, co97, eo97⟩ := Kd.R_slice HO_108001.out
                                  (first | subst eo97 | (injection eo97 with f1_ f2_ f3_; have f4_ := f1_.symm; have f5_ := f3_.symm; clear f1_ f2_ f3_; subst f4_; subst f5_))
                                  refine start_ (n := 14) (S := fun w' => w'.cell? ⟨gb107, 0, none⟩ = some (.int .i8 a0_0) ∧ w'.cell? ⟨gb107, 1, none⟩ = some (.slice Ao97 x108001_1.length co97) ∧ w'.cell? ⟨gb107, 2, none⟩ = some (.slice none 0 0)) (ds := []) #[false, false, false, false, false, false, false, false, false, false, false, false, false, false] (by kernel_rfl) rfl rfl ⟨(blk_cell BK107.out 0).trans rfl, (blk_cell BK107.out 1).trans rfl, (blk_cell BK107.out 2).trans rfl⟩ (fun hHeld => ?_); refine with_tabW spec_MergeCircuit.tab14 spec_MergeCircuit.bits14 (fun HT_ HW_ => ?_)
                                  generalize wr.drew = w96 at HO_4 HO_108001 BK101 BK102 BK107 BK109 HB hHeld ⊢
                                  refine pure_ (i := 0) (N := some 59) (v := ?_) (a' := ?_) #[true, false, false, false, false, false, false, false, false, false, false, false, false, false] rfl rfl (any_of HT_.out (by kernel_rfl)) (fun _ _ _ h => h) (Or.inl ⟨by rfl, ?_⟩) ?_ ?_
                                  rotate_left
                                  · intro w'
                                    go_simp
                                    with_reducible rfl
                                  rotate_left
                                  · simp only [Act.put, List.setIfInBounds_toArray, List.set_cons_zero, List.set_cons_succ, i64_w, i32_w]
                                    rfl
                                  refine pure_ (i := 1) (N := some 60) (v := ?_) (a' := ?_) #[true, true, false, false, false, false, false, false, false, false, false, false, false, false] rfl rfl (any_of HT_.out (by kernel_rfl)) (fun _ _ _ h => h) (Or.inl ⟨by rfl, ?_⟩) ?_ ?_
                                  rotate_left
                                  · intro w'
                                    go_simp
                                    with_reducible rfl
                                  rotate_left
                                  · simp only [Act.put, List.setIfInBounds_toArray, List.set_cons_zero, List.set_cons_succ, i64_w, i32_w]
                                    rfl
                                  refine take_ (i := 2) (N := some 61) (v := ?_) (a' := ?_) #[true, true, true, false, false, false, false, false, false, false, false, false, false, false] rfl rfl (take_ofW HT_.out HW_.out (by kernel_rfl)) (fun _ _ _ h => h) (Or.inl ⟨by rfl, ?_⟩) hHeld ?_ ?_
                                  rotate_left
                                  · rintro w' ⟨s0, s1, s2⟩
                                    go_simp
                                    with_reducible rfl
                                  rotate_left
                                  · simp only [Act.put, List.setIfInBounds_toArray, List.set_cons_zero, List.set_cons_succ, i64_w, i32_w]
                                    rfl
                                  refine pure_ (i := 3) (N := some 62) (v := ?_) (a' := ?_) #[true, true, true, true, false, false, false, false, false, false, false, false, false, false] rfl rfl (any_of HT_.out (by kernel_rfl)) (fun _ _ _ h => h) (Or.inl ⟨by rfl, ?_⟩) ?_ ?_
                                  rotate_left
                                  · intro w'
                                    go_simp
                                    with_reducible rfl
                                  rotate_left
                                  · simp only [Act.put, List.setIfInBounds_toArray, List.set_cons_zero, List.set_cons_succ, i64_w, i32_w]
                                    rfl
                                  refine pure_ (i := 4) (N := some 63) (v := ?_) (a' := ?_) #[true, true, true, true, true, false, false, false, false, false, false, false, false, false] rfl rfl (any_of HT_.out (by kernel_rfl)) (fun _ _ _ h => h) (Or.inl ⟨by rfl, ?_⟩) ?_ ?_
                                  rotate_left
                                  · intro w'
                                    go_simp
                                    with_reducible rfl
                                  rotate_left
                                  · simp only [Act.put, List.setIfInBounds_toArray, List.set_cons_zero, List.set_cons_succ, i64_w, i32_w]
                                    rfl
                                  refine pure_ (i := 5) (N := some 64) (v := ?_) (a' := ?_) #[true, true, true, true, true, true, false, false, false, false, false, false, false, false] rfl rfl (any_of HT_.out (by kernel_rfl)) (fun _ _ _ h => h) (Or.inl ⟨by rfl, ?_⟩) ?_ ?_
                                  rotate_left
                                  · intro w'
                                    go_simp
                                    with_reducible rfl
                                  rotate_left
                                  · simp only [Act.put, List.setIfInBounds_toArray, List.set_cons_zero, List.set_cons_succ, i64_w, i32_w]
                                    rfl
                                  refine pure_ (i := 6) (N := some 65) (v := undef) (a' := ?_) #[true, true, true, true, true, true, true, false, false, false, false, false, false, false] rfl rfl (any_of HT_.out (by kernel_rfl)) (fun _ _ _ h => h) (Or.inr ⟨by rfl, rfl⟩) ?_ ?_
                                  rotate_left
                                  · simp only [Act.put, List.setIfInBounds_toArray, List.set_cons_zero, List.set_cons_succ, i64_w, i32_w]
                                    rfl
                                  refine pure_ (i := 7) (N := some 66) (v := undef) (a' := ?_) #[true, true, true, true, true, true, true, true, false, false, false, false, false, false] rfl rfl (any_of HT_.out (by kernel_rfl)) (fun _ _ _ h => h) (Or.inr ⟨by rfl, rfl⟩) ?_ ?_
                                  rotate_left
                                  · simp only [Act.put, List.setIfInBounds_toArray, List.set_cons_zero, List.set_cons_succ, i64_w, i32_w]
                                    rfl
                                  refine pure_ (i := 8) (N := some 67) (v := undef) (a' := ?_) #[true, true, true, true, true, true, true, true, true, false, false, false, false, false] rfl rfl (any_of HT_.out (by kernel_rfl)) (fun _ _ _ h => h) (Or.inr ⟨by rfl, rfl⟩) ?_ ?_
                                  rotate_left
                                  · simp only [Act.put, List.setIfInBounds_toArray, List.set_cons_zero, List.set_cons_succ, i64_w, i32_w]
                                    rfl
                                  refine pure_ (i := 9) (N := some 68) (v := undef) (a' := ?_) #[true, true, true, true, true, true, true, true, true, true, false, false, false, false] rfl rfl (any_of HT_.out (by kernel_rfl)) (fun _ _ _ h => h) (Or.inr ⟨by rfl, rfl⟩) ?_ ?_
                                  rotate_left
                                  · simp only [Act.put, List.setIfInBounds_toArray, List.set_cons_zero, List.set_cons_succ, i64_w, i32_w]
                                    rfl
                                  refine pure_ (i := 10) (N := some 69) (v := undef) (a' := ?_) #[true, true, true, true, true, true, true, true, true, true, true, false, false, false] rfl rfl (any_of HT_.out (by kernel_rfl)) (fun _ _ _ h => h) (Or.inr ⟨by rfl, rfl⟩) ?_ ?_
                                  rotate_left
                                  · simp only [Act.put, List.setIfInBounds_toArray, List.set_cons_zero, List.set_cons_succ, i64_w, i32_w]
                                    rfl
                                  refine pure_ (i := 11) (N := some 70) (v := undef) (a' := ?_) #[true, true, true, true, true, true, true, true, true, true, true, true, false, false] rfl rfl (any_of HT_.out (by kernel_rfl)) (fun _ _ _ h => h) (Or.inr ⟨by rfl, rfl⟩) ?_ ?_
                                  rotate_left
                                  · simp only [Act.put, List.setIfInBounds_toArray, List.set_cons_zero, List.set_cons_succ, i64_w, i32_w]
                                    rfl
                                  refine pure_ (i := 12) (N := some 71) (v := undef) (a' := ?_) #[true, true, true, true, true, true, true, true, true, true, true, true, true, false] rfl rfl (any_of HT_.out (by kernel_rfl)) (fun _ _ _ h => h) (Or.inr ⟨by rfl, rfl⟩) ?_ ?_
                                  rotate_left
                                  · simp only [Act.put, List.setIfInBounds_toArray, List.set_cons_zero, List.set_cons_succ, i64_w, i32_w]
                                    rfl
                                  refine pure_ (i := 13) (N := some 72) (v := ?_) (a' := ?_) #[true, true, true, true, true, true, true, true, true, true, true, true, true, true] rfl rfl (any_of HT_.out (by kernel_rfl)) (fun _ _ _ h => h) (Or.inl ⟨by rfl, ?_⟩) ?_ ?_
                                  rotate_left
                                  · intro w'
                                    go_simp
                                    with_reducible rfl
                                  rotate_left
                                  · simp only [Act.put, List.setIfInBounds_toArray, List.set_cons_zero, List.set_cons_succ, i64_w, i32_w]
                                    rfl
                                  refine done_ (done_of HT_.out (by kernel_rfl)) ?_
                                  have hnb98 := NB107_101.out
                                  have hnc98 := NB101_107.out
                                  have hnb99 := NB107_102.out
                                  have hnc99 := NB102_107.out
                                  have hnb100 := NB107_109.out
                                  have hnc100 := NB109_107.out
                                  have hcz101_0 : w96.cell? ⟨gb107, 0, none⟩ = some (.int .i8 a0_0) := (blk_cell BK107.out 0).trans rfl
                                  have hcz101_1 : w96.cell? ⟨gb107, 1, none⟩ = some (.slice Ao97 x108001_1.length co97) := (blk_cell BK107.out 1).trans rfl
                                  have hcz101_2 : w96.cell? ⟨gb107, 2, none⟩ = some (.slice none 0 0) := (blk_cell BK107.out 2).trans rfl
                                  have hfz101_0 := blk_frozen BK107.out 0
                                  have hfz101_1 := blk_frozen BK107.out 1
                                  have hfz101_2 := blk_frozen BK107.out 2
                                  have hnb102 := NB109_101.out
                                  have hnc102 := NB101_109.out
                                  have hnb103 := NB109_102.out
                                  have hnc103 := NB102_109.out
                                  have hcz104_0 : w96.cell? ⟨gb109, 0, none⟩ = some (.int .i8 x110000_20) := (blk_cell BK109.out 0).trans rfl
                                  have hcz104_1 : w96.cell? ⟨gb109, 1, none⟩ = some (.int .i16 x110001_20) := (blk_cell BK109.out 1).trans rfl
                                  have hcz104_2 : w96.cell? ⟨gb109, 2, none⟩ = some (.int .i16 x110002_20) := (blk_cell BK109.out 2).trans rfl
                                  have hfz104_0 := blk_frozen BK109.out 0
                                  have hfz104_1 := blk_frozen BK109.out 1
                                  have hfz104_2 := blk_frozen BK109.out 2
                                  try go_wp2_with (first | ((with_reducible refine gate_builtin (b := .append) (xs := #[.tmp 81, .tmp 83]) rfl ?_); at_builtin; refine Kd.R_append k68 (w0 := w) w.heap.size rfl (.tmp 81) (.tmp 83) 28 68 (.agg #[(.int .i8 0), (.int .i16 0), (.int .i16 0)]) 6 rfl Try.underlying28 info68 rfl (by decide) (by omega) (.slice Ao97 x108001_1.length co97) x108001_1 (⟨x110000_20, x110001_20, x110002_20⟩ : S68) [.int .i8 x110000_20, .int .i16 x110001_20, .int .i16 x110002_20] (fun k_ => k_ ≠ gb109) (fun _ => False) rfl rfl ?aP (fun _ hk => hk.elim) ?aF ?aO ?aB ?aS ?aL ?_; (case aP => exact k68_mkM _ _ _ (⟨x110000_20, x110001_20, x110002_20⟩ : S68)); (case aB => exact (by repeat (first | (with_reducible first | exact HB.out | apply below_alloc | apply pw_below_drewN | apply below_drew1 | refine below_set ?_ GE101.out | refine below_set ?_ GE102.out | refine below_set ?_ GE107.out | refine below_set ?_ GE109.out) | exact HB.out))); (case aF => exact (fun k_ hk => Kd.freshB (g := gb109) (o := .cells #[.int .i8 x110000_20, .int .i16 x110001_20, .int .i16 x110002_20] 68 (0, 0)) (by (with_reducible repeat (first | refine blk_drewN ?_ _ | refine blk_drew ?_ | refine blk_alloc ?_ _)); exact BK109.out) k_ hk)); (case aO => exact (by (with_reducible repeat (first | apply Kd.R_alloc | apply Kd.R_drewN | apply Kd.R_drew)); exact HO_108001.out)); (case aS => exact (below_size (by repeat (first | (with_reducible first | exact HB.out | apply below_alloc | apply pw_below_drewN | apply below_drew1 | refine below_set ?_ GE101.out | refine below_set ?_ GE102.out | refine below_set ?_ GE107.out | refine below_set ?_ GE109.out) | exact HB.out)))); (case aL => have := LMc92.out; omega); intro v120 w105 ho hb hg hat; rw [← Ny119.out] at ho; have n0_ := Aside0.mk (Kd.R_over' (by (with_reducible repeat (first | apply Kd.R_alloc | apply Kd.R_drewN | apply Kd.R_drew)); exact HO_4.out) (Kd.R_typed (by (with_reducible repeat (first | apply Kd.R_alloc | apply Kd.R_drewN | apply Kd.R_drew)); exact HO_108001.out)) (by decide) hg); have n1_ := Aside0.mk (blk_grown (g := gb101) (o := .cells #[.int .i8 a0_0, .slice (some ad108) l0_1.length c0_1, .slice A0_2 l0_2.length c0_2] 30 (0, 0)) (by (with_reducible repeat (first | refine blk_drewN ?_ _ | refine blk_drew ?_ | refine blk_alloc ?_ _)); exact BK101.out) hg (Kd.R_ne HO_108001.out BK101.out (by decide))); have n2_ := Aside0.mk (blk_grown (g := gb102) (o := .cells #[.int .i8 0, .slice none 0 0, .slice none 0 0] 30 (0, 0)) (by (with_reducible repeat (first | refine blk_drewN ?_ _ | refine blk_drew ?_ | refine blk_alloc ?_ _)); exact BK102.out) hg (Kd.R_ne HO_108001.out BK102.out (by decide))); have n3_ := Aside0.mk (blk_grown (g := gb107) (o := .cells #[.int .i8 a0_0, .slice Ao97 x108001_1.length co97, .slice none 0 0] 30 (0, 0)) (by (with_reducible repeat (first | refine blk_drewN ?_ _ | refine blk_drew ?_ | refine blk_alloc ?_ _)); exact BK107.out) hg (Kd.R_ne HO_108001.out BK107.out (by decide))); have n4_ := Aside0.mk (blk_grown (g := gb109) (o := .cells #[.int .i8 x110000_20, .int .i16 x110001_20, .int .i16 x110002_20] 68 (0, 0)) (by (with_reducible repeat (first | refine blk_drewN ?_ _ | refine blk_drew ?_ | refine blk_alloc ?_ _)); exact BK109.out) hg (Kd.R_away HO_108001.out (fun _ hk => hk))); have n5_ := Aside0.mk (hb); have n6_ := Aside0.mk (ho); clear HO_4; clear BK101; clear BK102; clear BK107; clear BK109; clear HB; clear HO_108001; have HO_4 := n0_; have BK101 := n1_; have BK102 := n2_; have BK107 := n3_; have BK109 := n4_; have HB := n5_; have HO121 := n6_; clear n0_ n1_ n2_ n3_ n4_ n5_ n6_; clear ho hb hg hat; obtain ⟨Ao106, co106, eo106⟩ := Kd.R_slice HO121.out; subst eo106; have hcz107_0 : w105.cell? ⟨gb107, 0, none⟩ = some (.int .i8 a0_0) := (blk_cell BK107.out 0).trans rfl; have hcz107_1 : w105.cell? ⟨gb107, 1, none⟩ = some (.slice Ao97 x108001_1.length co97) := (blk_cell BK107.out 1).trans rfl; have hcz107_2 : w105.cell? ⟨gb107, 2, none⟩ = some (.slice none 0 0) := (blk_cell BK107.out 2).trans rfl; have hfz107_0 := blk_frozen BK107.out 0; have hfz107_1 := blk_frozen BK107.out 1; have hfz107_2 := blk_frozen BK107.out 2) | ((with_reducible refine gate_store (t := 28) (p := 85) rfl ?_); refine store_event (t := 28) (p := 85) (v := ?vo_w108) (w1 := (w105.setCell ⟨gb107, 1, none⟩ (.slice Ao106 y119.length co106))) ?hg ?ho ?hn ?hr ?_; (case ho => rfl); (case hg => rfl); (case hn => rfl); (case hr => first | (go_simp; done) | (go_simp; rfl)); intro w108 hw; have n0_ : Aside0 (Kd.R (Kd.int .i16) 66 w108 w.heap.size (fun _ => True) v105 x4_1) := ⟨(by rw [hw]; exact (by (with_reducible repeat (first | apply Kd.R_alloc | apply Kd.R_drewN | apply Kd.R_drew)); exact Kd.R_mono (Kd.R_far (p := ⟨gb107, 1, none⟩) (Kd.R_types HO_4.out BK107.out (by decide)) (fun _ hk => hk.2) (.slice Ao106 y119.length co106)) (fun _ hk => trivial)))⟩; have n1_ : Aside0 (Kd.R k68 68 w108 w.heap.size (fun k_ => k_ ≠ gb109) (.slice Ao106 y119.length co106) y119) := ⟨(by rw [hw]; exact (by (with_reducible repeat (first | apply Kd.R_alloc | apply Kd.R_drewN | apply Kd.R_drew)); exact Kd.R_mono (Kd.R_far (p := ⟨gb107, 1, none⟩) (Kd.R_types HO121.out BK107.out (by decide)) (fun _ hk => hk.2) (.slice Ao106 y119.length co106)) (fun _ hk => hk.1)))⟩; have n2_ : Aside0 (w108.heap[gb101]? = some (.cells #[.int .i8 a0_0, .slice (some ad108) l0_1.length c0_1, .slice A0_2 l0_2.length c0_2] 30 (0, 0))) := ⟨(by rw [hw]; exact (by (with_reducible repeat (first | refine blk_drewN ?_ _ | refine blk_drew ?_ | refine blk_alloc ?_ _)); refine blk_far ?_ NB101_107.out _; (with_reducible repeat (first | refine blk_drewN ?_ _ | refine blk_drew ?_ | refine blk_alloc ?_ _)); exact BK101.out))⟩; have n3_ : Aside0 (w108.heap[gb102]? = some (.cells #[.int .i8 0, .slice none 0 0, .slice none 0 0] 30 (0, 0))) := ⟨(by rw [hw]; exact (by (with_reducible repeat (first | refine blk_drewN ?_ _ | refine blk_drew ?_ | refine blk_alloc ?_ _)); refine blk_far ?_ NB102_107.out _; (with_reducible repeat (first | refine blk_drewN ?_ _ | refine blk_drew ?_ | refine blk_alloc ?_ _)); exact BK102.out))⟩; have n4_ : Aside0 (w108.heap[gb107]? = some (.cells #[.int .i8 a0_0, .slice Ao106 y119.length co106, .slice none 0 0] 30 (0, 0))) := ⟨(by rw [hw]; exact (by (with_reducible repeat (first | refine blk_drewN ?_ _ | refine blk_drew ?_ | refine blk_alloc ?_ _)); refine blk_put (cs := #[.int .i8 a0_0, .slice Ao97 x108001_1.length co97, .slice none 0 0]) ?_ 1 _ rfl; (with_reducible repeat (first | refine blk_drewN ?_ _ | refine blk_drew ?_ | refine blk_alloc ?_ _)); exact BK107.out))⟩; have n5_ : Aside0 (w108.heap[gb109]? = some (.cells #[.int .i8 x110000_20, .int .i16 x110001_20, .int .i16 x110002_20] 68 (0, 0))) := ⟨(by rw [hw]; exact (by (with_reducible repeat (first | refine blk_drewN ?_ _ | refine blk_drew ?_ | refine blk_alloc ?_ _)); refine blk_far ?_ NB109_107.out _; (with_reducible repeat (first | refine blk_drewN ?_ _ | refine blk_drew ?_ | refine blk_alloc ?_ _)); exact BK109.out))⟩; have n6_ : Aside0 (Below w.heap.size w w108) := ⟨(by rw [hw]; exact (by repeat (first | (with_reducible first | exact HB.out | apply below_alloc | apply pw_below_drewN | apply below_drew1 | refine below_set ?_ GE101.out | refine below_set ?_ GE102.out | refine below_set ?_ GE107.out | refine below_set ?_ GE109.out) | exact HB.out)))⟩; clear hw; clear HO_4; clear HO121; clear BK101; clear BK102; clear BK107; clear BK109; clear HB; have HO_4 := n0_; have HO121 := n1_; have BK101 := n2_; have BK102 := n3_; have BK107 := n4_; have BK109 := n5_; have HB := n6_; clear n0_ n1_ n2_ n3_ n4_ n5_ n6_; have p95 : 0 ≤ (x6_1 : Int) := of_decide_eq_true (by first | (with_reducible assumption) | assumption); have q95 : (x6_1 : Int) < ((x4_1.length : Int) : Int) := of_decide_eq_true (by first | (with_reducible assumption) | assumption); obtain ⟨go95, co95, eo95, gb95, gl95, cl95, HG95⟩ := Kd.R_form HO_4.out (by omega); (first | cases eo95 | (injection eo95 with ea_ en_ ec_; (first | subst ea_ | (injection ea_ with ea_; subst ea_)); subst ec_; clear en_)); have GB95 := Aside0.mk gb95; have GG95 := Aside0.mk HG95; clear gb95 gl95 HG95; obtain ⟨hx95_0, hf95_0⟩ := Kd.R_celln 0 HO_4.out (x6_1 : Int) p95 q95; replace p95 := eq_true p95; replace q95 := eq_true q95; obtain ⟨hy109_, hz109_⟩ := Kd.R_celln 0 HO_4.out (x6_1 : Int) (of_decide_eq_true (by first | (with_reducible assumption) | assumption)) (of_decide_eq_true (by first | (with_reducible assumption) | assumption)); have HP109 := Kd.R_putg HO_4.out (x6_1 : Int) (IntKind.i16.wrap (x8_3))) | ((with_reducible refine gate_store (t := 66) (p := 90) rfl ?_); refine store_event (t := 66) (p := 90) (v := ?vo_w110) (w1 := (w108.setCell ⟨go95, (x6_1 : Int).toNat, none⟩ (.int .i16 (IntKind.i16.wrap (x8_3))))) ?hg ?ho ?hn ?hr ?_; (case ho => rfl); (case hg => rfl); (case hn => rfl); (case hr => first | (go_simp; done) | (go_simp; rfl)); intro w110 hw; have hg : w108.grownBy w110 (some go95) := (by rw [hw]; exact HP109.2); have hp_ : Kd.R (Kd.int .i16) 66 w110 w.heap.size (fun _ => True) (.slice (some ⟨go95, 0, none⟩) x4_1.length co95) y122 := (by rw [hw, Ny122.out]; exact HP109.1); clear HP109; have n0_ := Aside0.mk (hp_); have n1_ := Aside0.mk (blk_grown (g := gb101) (o := .cells #[.int .i8 a0_0, .slice (some ad108) l0_1.length c0_1, .slice A0_2 l0_2.length c0_2] 30 (0, 0)) (by (with_reducible repeat (first | refine blk_drewN ?_ _ | refine blk_drew ?_ | refine blk_alloc ?_ _)); exact BK101.out) hg (Kd.R_ne HO_4.out BK101.out (by decide))); have n2_ := Aside0.mk (blk_grown (g := gb102) (o := .cells #[.int .i8 0, .slice none 0 0, .slice none 0 0] 30 (0, 0)) (by (with_reducible repeat (first | refine blk_drewN ?_ _ | refine blk_drew ?_ | refine blk_alloc ?_ _)); exact BK102.out) hg (Kd.R_ne HO_4.out BK102.out (by decide))); have n3_ := Aside0.mk (blk_grown (g := gb107) (o := .cells #[.int .i8 a0_0, .slice Ao106 y119.length co106, .slice none 0 0] 30 (0, 0)) (by (with_reducible repeat (first | refine blk_drewN ?_ _ | refine blk_drew ?_ | refine blk_alloc ?_ _)); exact BK107.out) hg (Kd.R_ne HO_4.out BK107.out (by decide))); have n4_ := Aside0.mk (blk_grown (g := gb109) (o := .cells #[.int .i8 x110000_20, .int .i16 x110001_20, .int .i16 x110002_20] 68 (0, 0)) (by (with_reducible repeat (first | refine blk_drewN ?_ _ | refine blk_drew ?_ | refine blk_alloc ?_ _)); exact BK109.out) hg (Kd.R_ne HO_4.out BK109.out (by decide))); have n5_ := Aside0.mk (Kd.R_over' (v := (.slice (some ⟨go95, 0, none⟩) x4_1.length co95)) (by (with_reducible repeat (first | apply Kd.R_alloc | apply Kd.R_drewN | apply Kd.R_drew)); exact HO121.out) (Kd.R_typed HO_4.out) (by decide) hg); have n6_ := Aside0.mk ((by rw [hw]; exact below_set (HB.out) GB95.out : Below w.heap.size w w110)); clear HO_4; clear BK101; clear BK102; clear BK107; clear BK109; clear HO121; clear HB; have HO_4 := n0_; have BK101 := n1_; have BK102 := n2_; have BK107 := n3_; have BK109 := n4_; have HO121 := n5_; have HB := n6_; clear n0_ n1_ n2_ n3_ n4_ n5_ n6_; clear hg hw hp_))
                                  go_roundg k3
                                  case measure => have := HK1.out; have := HJ20.out; have := HK3.out; omega
                                  case rel => exact ⟨(y122), (wrap64 (x6_1 + 1)), (y119), (.slice Ao106 y119.length co106), (by first | rfl | (simp; done) | (simp [*]; done)), H', ⟨by have := HK1.out; have := HJ20.out; have := HK3.out; omega⟩, ⟨by (with_reducible repeat (first | apply Kd.R_alloc | apply Kd.R_drewN | apply Kd.R_drew)); exact HO_4.out⟩, ⟨by (with_reducible repeat (first | apply Kd.R_alloc | apply Kd.R_drewN | apply Kd.R_drew)); exact Kd.R_mono HO121.out (fun _ hk => trivial)⟩, ⟨by (with_reducible repeat (first | refine blk_drewN ?_ _ | refine blk_drew ?_ | refine blk_alloc ?_ _)); exact BK101.out⟩, ⟨by (with_reducible repeat (first | refine blk_drewN ?_ _ | refine blk_drew ?_ | refine blk_alloc ?_ _)); exact BK102.out⟩, ⟨by (with_reducible repeat (first | refine blk_drewN ?_ _ | refine blk_drew ?_ | refine blk_alloc ?_ _)); exact BK107.out⟩, ⟨by repeat (first | (with_reducible first | exact HB.out | apply below_alloc | apply pw_below_drewN | apply below_drew1 | refine below_set ?_ GE101.out | refine below_set ?_ GE102.out | refine below_set ?_ GE107.out | refine below_set ?_ GE109.out) | exact HB.out)⟩⟩
                                · rw [if_neg c94] at H
                                  exact absurd H (by simp)
                              · rw [if_neg c93] at H
                                exact absurd H (by simp)
                            · rw [if_neg c92] at H
                              exact absurd H (by simp)
                          · rw [if_neg c91] at H
                            have c91b0 : (x8_3 == (x108001_1.length : Int)) = false := beq_eq_false_iff_ne.mpr c91
                            have c91b1 : (x8_3 != (x108001_1.length : Int)) = true := bne_iff_ne.mpr c91
                            by_cases c111 : 0 ≤ x6_1
                            · rw [if_pos c111] at H
                              have c111b0 : decide (0 ≤ x6_1) = true := decide_eq_true c111
                              clear c111
                              by_cases c112 : x6_1 < (x4_1.length : Int)
                              · rw [if_pos c112] at H
                                have c112b0 : decide (x6_1 < (x4_1.length : Int)) = true := decide_eq_true c112
                                clear c112
                                obtain ⟨y123, hy123⟩ : ∃ y_ : List Int, y_ = (x4_1.set (x6_1 : Int).toNat (IntKind.i16.wrap (x8_3))) := ⟨_, rfl⟩
                                replace H : (spec_MergeCircuit.l0 k3 y123 (wrap64 (x6_1 + 1)) a0_0 l0_1 l0_2 a0_0 x108001_1) = some (r1, r2, r3, r4) := by first | (rw [hy123]; with_reducible exact H) | (have H2_ := (Option.bind_some _ _).symm.trans H; rw [hy123]; with_reducible exact H2_) | (have H2_ := (Option.bind_some _ _).symm.trans H; with_reducible exact H2_) | with_reducible exact H | (rw [hy123]; exact H) | exact H
                                have Ny123 := Aside0.mk hy123
                                clear hy123
                                have H' := Aside0.mk H
                                clear H
                                try go_wp2
                                have n0_ := Aside0.mk (Kd.R_drew HO_4.out)
                                have n1_ := Aside0.mk (Kd.R_drew HO_108001.out)
                                have n2_ := Aside0.mk (blk_drew BK101.out)
                                have n3_ := Aside0.mk (blk_drew BK102.out)
                                have n4_ := Aside0.mk (blk_drew BK107.out)
                                have n5_ := Aside0.mk (blk_drew BK109.out)
                                have n6_ := Aside0.mk (below_drew1 HB.out)
                                clear HO_4
                                clear HO_108001
                                clear BK101
                                clear BK102
                                clear BK107
                                clear BK109
                                clear HB
                                have HO_4 := n0_
                                have HO_108001 := n1_
                                have BK101 := n2_
                                have BK102 := n3_
                                have BK107 := n4_
                                have BK109 := n5_
                                have HB := n6_
                                clear n0_ n1_ n2_ n3_ n4_ n5_ n6_
                                obtain ⟨Ao115, co115, eo115⟩ := Kd.R_slice HO_108001.out
                                (first | subst eo115 | (injection eo115 with f1_ f2_ f3_; have f4_ := f1_.symm; have f5_ := f3_.symm; clear f1_ f2_ f3_; subst f4_; subst f5_))
                                refine start_ (n := 14) (S := fun w' => w'.cell? ⟨gb107, 0, none⟩ = some (.int .i8 a0_0) ∧ w'.cell? ⟨gb107, 1, none⟩ = some (.slice Ao115 x108001_1.length co115) ∧ w'.cell? ⟨gb107, 2, none⟩ = some (.slice none 0 0)) (ds := []) #[false, false, false, false, false, false, false, false, false, false, false, false, false, false] (by kernel_rfl) rfl rfl ⟨(blk_cell BK107.out 0).trans rfl, (blk_cell BK107.out 1).trans rfl, (blk_cell BK107.out 2).trans rfl⟩ (fun hHeld => ?_); refine with_tabW spec_MergeCircuit.tab14 spec_MergeCircuit.bits14 (fun HT_ HW_ => ?_)
                                generalize wr.drew = w114 at HO_4 HO_108001 BK101 BK102 BK107 BK109 HB hHeld ⊢
                                refine pure_ (i := 0) (N := some 59) (v := ?_) (a' := ?_) #[true, false, false, false, false, false, false, false, false, false, false, false, false, false] rfl rfl (any_of HT_.out (by kernel_rfl)) (fun _ _ _ h => h) (Or.inl ⟨by rfl, ?_⟩) ?_ ?_
                                rotate_left
                                · intro w'
                                  go_simp
                                  with_reducible rfl
                                rotate_left
                                · simp only [Act.put, List.setIfInBounds_toArray, List.set_cons_zero, List.set_cons_succ, i64_w, i32_w]
                                  rfl
                                refine pure_ (i := 1) (N := some 60) (v := ?_) (a' := ?_) #[true, true, false, false, false, false, false, false, false, false, false, false, false, false] rfl rfl (any_of HT_.out (by kernel_rfl)) (fun _ _ _ h => h) (Or.inl ⟨by rfl, ?_⟩) ?_ ?_
                                rotate_left
                                · intro w'
                                  go_simp
                                  with_reducible rfl
                                rotate_left
                                · simp only [Act.put, List.setIfInBounds_toArray, List.set_cons_zero, List.set_cons_succ, i64_w, i32_w]
                                  rfl
                                refine take_ (i := 2) (N := some 61) (v := ?_) (a' := ?_) #[true, true, true, false, false, false, false, false, false, false, false, false, false, false] rfl rfl (take_ofW HT_.out HW_.out (by kernel_rfl)) (fun _ _ _ h => h) (Or.inl ⟨by rfl, ?_⟩) hHeld ?_ ?_
                                rotate_left
                                · rintro w' ⟨s0, s1, s2⟩
                                  go_simp
                                  with_reducible rfl
                                rotate_left
                                · simp only [Act.put, List.setIfInBounds_toArray, List.set_cons_zero, List.set_cons_succ, i64_w, i32_w]
                                  rfl
                                refine pure_ (i := 3) (N := some 62) (v := ?_) (a' := ?_) #[true, true, true, true, false, false, false, false, false, false, false, false, false, false] rfl rfl (any_of HT_.out (by kernel_rfl)) (fun _ _ _ h => h) (Or.inl ⟨by rfl, ?_⟩) ?_ ?_
                                rotate_left
                                · intro w'
                                  go_simp
                                  with_reducible rfl
                                rotate_left
                                · simp only [Act.put, List.setIfInBounds_toArray, List.set_cons_zero, List.set_cons_succ, i64_w, i32_w]
                                  rfl
                                refine pure_ (i := 4) (N := some 63) (v := ?_) (a' := ?_) #[true, true, true, true, true, false, false, false, false, false, false, false, false, false] rfl rfl (any_of HT_.out (by kernel_rfl)) (fun _ _ _ h => h) (Or.inl ⟨by rfl, ?_⟩) ?_ ?_
                                rotate_left
                                · intro w'
                                  go_simp
                                  with_reducible rfl
                                rotate_left
                                · simp only [Act.put, List.setIfInBounds_toArray, List.set_cons_zero, List.set_cons_succ, i64_w, i32_w]
                                  rfl
                                refine pure_ (i := 5) (N := some 64) (v := ?_) (a' := ?_) #[true, true, true, true, true, true, false, false, false, false, false, false, false, false] rfl rfl (any_of HT_.out (by kernel_rfl)) (fun _ _ _ h => h) (Or.inl ⟨by rfl, ?_⟩) ?_ ?_
                                rotate_left
                                · intro w'
                                  go_simp
                                  with_reducible rfl
                                rotate_left
                                · simp only [Act.put, List.setIfInBounds_toArray, List.set_cons_zero, List.set_cons_succ, i64_w, i32_w]
                                  rfl
                                refine pure_ (i := 6) (N := some 65) (v := undef) (a' := ?_) #[true, true, true, true, true, true, true, false, false, false, false, false, false, false] rfl rfl (any_of HT_.out (by kernel_rfl)) (fun _ _ _ h => h) (Or.inr ⟨by rfl, rfl⟩) ?_ ?_
                                rotate_left
                                · simp only [Act.put, List.setIfInBounds_toArray, List.set_cons_zero, List.set_cons_succ, i64_w, i32_w]
                                  rfl
                                refine pure_ (i := 7) (N := some 66) (v := undef) (a' := ?_) #[true, true, true, true, true, true, true, true, false, false, false, false, false, false] rfl rfl (any_of HT_.out (by kernel_rfl)) (fun _ _ _ h => h) (Or.inr ⟨by rfl, rfl⟩) ?_ ?_
                                rotate_left
                                · simp only [Act.put, List.setIfInBounds_toArray, List.set_cons_zero, List.set_cons_succ, i64_w, i32_w]
                                  rfl
                                refine pure_ (i := 8) (N := some 67) (v := undef) (a' := ?_) #[true, true, true, true, true, true, true, true, true, false, false, false, false, false] rfl rfl (any_of HT_.out (by kernel_rfl)) (fun _ _ _ h => h) (Or.inr ⟨by rfl, rfl⟩) ?_ ?_
                                rotate_left
                                · simp only [Act.put, List.setIfInBounds_toArray, List.set_cons_zero, List.set_cons_succ, i64_w, i32_w]
                                  rfl
                                refine pure_ (i := 9) (N := some 68) (v := undef) (a' := ?_) #[true, true, true, true, true, true, true, true, true, true, false, false, false, false] rfl rfl (any_of HT_.out (by kernel_rfl)) (fun _ _ _ h => h) (Or.inr ⟨by rfl, rfl⟩) ?_ ?_
                                rotate_left
                                · simp only [Act.put, List.setIfInBounds_toArray, List.set_cons_zero, List.set_cons_succ, i64_w, i32_w]
                                  rfl
                                refine pure_ (i := 10) (N := some 69) (v := undef) (a' := ?_) #[true, true, true, true, true, true, true, true, true, true, true, false, false, false] rfl rfl (any_of HT_.out (by kernel_rfl)) (fun _ _ _ h => h) (Or.inr ⟨by rfl, rfl⟩) ?_ ?_
                                rotate_left
                                · simp only [Act.put, List.setIfInBounds_toArray, List.set_cons_zero, List.set_cons_succ, i64_w, i32_w]
                                  rfl
                                refine pure_ (i := 11) (N := some 70) (v := undef) (a' := ?_) #[true, true, true, true, true, true, true, true, true, true, true, true, false, false] rfl rfl (any_of HT_.out (by kernel_rfl)) (fun _ _ _ h => h) (Or.inr ⟨by rfl, rfl⟩) ?_ ?_
                                rotate_left
                                · simp only [Act.put, List.setIfInBounds_toArray, List.set_cons_zero, List.set_cons_succ, i64_w, i32_w]
                                  rfl
                                refine pure_ (i := 12) (N := some 71) (v := undef) (a' := ?_) #[true, true, true, true, true, true, true, true, true, true, true, true, true, false] rfl rfl (any_of HT_.out (by kernel_rfl)) (fun _ _ _ h => h) (Or.inr ⟨by rfl, rfl⟩) ?_ ?_
                                rotate_left
                                · simp only [Act.put, List.setIfInBounds_toArray, List.set_cons_zero, List.set_cons_succ, i64_w, i32_w]
                                  rfl
                                refine pure_ (i := 13) (N := some 72) (v := ?_) (a' := ?_) #[true, true, true, true, true, true, true, true, true, true, true, true, true, true] rfl rfl (any_of HT_.out (by kernel_rfl)) (fun _ _ _ h => h) (Or.inl ⟨by rfl, ?_⟩) ?_ ?_
                                rotate_left
                                · intro w'
                                  go_simp
                                  with_reducible rfl
                                rotate_left
                                · simp only [Act.put, List.setIfInBounds_toArray, List.set_cons_zero, List.set_cons_succ, i64_w, i32_w]
                                  rfl
                                refine done_ (done_of HT_.out (by kernel_rfl)) ?_
                                have hnb116 := NB107_101.out
                                have hnc116 := NB101_107.out
                                have hnb117 := NB107_102.out
                                have hnc117 := NB102_107.out
                                have hnb118 := NB107_109.out
                                have hnc118 := NB109_107.out
                                have hcz119_0 : w114.cell? ⟨gb107, 0, none⟩ = some (.int .i8 a0_0) := (blk_cell BK107.out 0).trans rfl
                                have hcz119_1 : w114.cell? ⟨gb107, 1, none⟩ = some (.slice Ao115 x108001_1.length co115) := (blk_cell BK107.out 1).trans rfl
                                have hcz119_2 : w114.cell? ⟨gb107, 2, none⟩ = some (.slice none 0 0) := (blk_cell BK107.out 2).trans rfl
                                have hfz119_0 := blk_frozen BK107.out 0
                                have hfz119_1 := blk_frozen BK107.out 1
                                have hfz119_2 := blk_frozen BK107.out 2
                                have p113 : 0 ≤ (x6_1 : Int) := of_decide_eq_true (by first | (with_reducible assumption) | assumption)
                                have q113 : (x6_1 : Int) < ((x4_1.length : Int) : Int) := of_decide_eq_true (by first | (with_reducible assumption) | assumption)
                                obtain ⟨go113, co113, eo113, gb113, gl113, cl113, HG113⟩ := Kd.R_form HO_4.out (by omega)
                                (first | cases eo113 | (injection eo113 with ea_ en_ ec_; (first | subst ea_ | (injection ea_ with ea_; subst ea_)); subst ec_; clear en_))
                                have GB113 := Aside0.mk gb113
                                have GG113 := Aside0.mk HG113
                                clear gb113 gl113 HG113
                                obtain ⟨hx113_0, hf113_0⟩ := Kd.R_celln 0 HO_4.out (x6_1 : Int) p113 q113
                                replace p113 := eq_true p113
                                replace q113 := eq_true q113
                                obtain ⟨hy120_, hz120_⟩ := Kd.R_celln 0 HO_4.out (x6_1 : Int) (of_decide_eq_true (by first | (with_reducible assumption) | assumption)) (of_decide_eq_true (by first | (with_reducible assumption) | assumption))
                                have HP120 := Kd.R_putg HO_4.out (x6_1 : Int) (IntKind.i16.wrap (x8_3))
                                try go_wp2_with (first | ((with_reducible refine gate_store (t := 66) (p := 90) rfl ?_); refine store_event (t := 66) (p := 90) (v := ?vo_w121) (w1 := (w114.setCell ⟨go113, (x6_1 : Int).toNat, none⟩ (.int .i16 (IntKind.i16.wrap (x8_3))))) ?hg ?ho ?hn ?hr ?_; (case ho => rfl); (case hg => rfl); (case hn => rfl); (case hr => first | (go_simp; done) | (go_simp; rfl)); intro w121 hw; have hg : w114.grownBy w121 (some go113) := (by rw [hw]; exact HP120.2); have hp_ : Kd.R (Kd.int .i16) 66 w121 w.heap.size (fun _ => True) (.slice (some ⟨go113, 0, none⟩) x4_1.length co113) y123 := (by rw [hw, Ny123.out]; exact HP120.1); clear HP120; have n0_ := Aside0.mk (hp_); have n1_ := Aside0.mk (Kd.R_over' (v := (.slice (some ⟨go113, 0, none⟩) x4_1.length co113)) (by (with_reducible repeat (first | apply Kd.R_alloc | apply Kd.R_drewN | apply Kd.R_drew)); exact HO_108001.out) (Kd.R_typed HO_4.out) (by decide) hg); have n2_ := Aside0.mk (blk_grown (g := gb101) (o := .cells #[.int .i8 a0_0, .slice (some ad108) l0_1.length c0_1, .slice A0_2 l0_2.length c0_2] 30 (0, 0)) (by (with_reducible repeat (first | refine blk_drewN ?_ _ | refine blk_drew ?_ | refine blk_alloc ?_ _)); exact BK101.out) hg (Kd.R_ne HO_4.out BK101.out (by decide))); have n3_ := Aside0.mk (blk_grown (g := gb102) (o := .cells #[.int .i8 0, .slice none 0 0, .slice none 0 0] 30 (0, 0)) (by (with_reducible repeat (first | refine blk_drewN ?_ _ | refine blk_drew ?_ | refine blk_alloc ?_ _)); exact BK102.out) hg (Kd.R_ne HO_4.out BK102.out (by decide))); have n4_ := Aside0.mk (blk_grown (g := gb107) (o := .cells #[.int .i8 a0_0, .slice Ao115 x108001_1.length co115, .slice none 0 0] 30 (0, 0)) (by (with_reducible repeat (first | refine blk_drewN ?_ _ | refine blk_drew ?_ | refine blk_alloc ?_ _)); exact BK107.out) hg (Kd.R_ne HO_4.out BK107.out (by decide))); have n5_ := Aside0.mk (blk_grown (g := gb109) (o := .cells #[.int .i8 x110000_20, .int .i16 x110001_20, .int .i16 x110002_20] 68 (0, 0)) (by (with_reducible repeat (first | refine blk_drewN ?_ _ | refine blk_drew ?_ | refine blk_alloc ?_ _)); exact BK109.out) hg (Kd.R_ne HO_4.out BK109.out (by decide))); have n6_ := Aside0.mk ((by rw [hw]; exact below_set (HB.out) GB113.out : Below w.heap.size w w121)); clear HO_4; clear HO_108001; clear BK101; clear BK102; clear BK107; clear BK109; clear HB; have HO_4 := n0_; have HO_108001 := n1_; have BK101 := n2_; have BK102 := n3_; have BK107 := n4_; have BK109 := n5_; have HB := n6_; clear n0_ n1_ n2_ n3_ n4_ n5_ n6_; clear hg hw hp_))
                                go_roundg k3
                                case measure => have := HK1.out; have := HJ20.out; have := HK3.out; omega
                                case rel => exact ⟨(y123), (wrap64 (x6_1 + 1)), (x108001_1), (.slice Ao115 x108001_1.length co115), (by first | rfl | (simp; done) | (simp [*]; done)), H', ⟨by have := HK1.out; have := HJ20.out; have := HK3.out; omega⟩, ⟨by (with_reducible repeat (first | apply Kd.R_alloc | apply Kd.R_drewN | apply Kd.R_drew)); exact HO_4.out⟩, ⟨by (with_reducible repeat (first | apply Kd.R_alloc | apply Kd.R_drewN | apply Kd.R_drew)); exact Kd.R_mono HO_108001.out (fun _ hk => trivial)⟩, ⟨by (with_reducible repeat (first | refine blk_drewN ?_ _ | refine blk_drew ?_ | refine blk_alloc ?_ _)); exact BK101.out⟩, ⟨by (with_reducible repeat (first | refine blk_drewN ?_ _ | refine blk_drew ?_ | refine blk_alloc ?_ _)); exact BK102.out⟩, ⟨by (with_reducible repeat (first | refine blk_drewN ?_ _ | refine blk_drew ?_ | refine blk_alloc ?_ _)); exact BK107.out⟩, ⟨by repeat (first | (with_reducible first | exact HB.out | apply below_alloc | apply pw_below_drewN | apply below_drew1 | refine below_set ?_ GE101.out | refine below_set ?_ GE102.out | refine below_set ?_ GE107.out | refine below_set ?_ GE109.out) | exact HB.out)⟩⟩
                              · rw [if_neg c112] at H
                                exact absurd H (by simp)
                            · rw [if_neg c111] at H
                              exact absurd H (by simp)
              · rw [if_neg c19] at H
                exact absurd H (by simp)
            · rw [if_neg c18] at H
              have c18b0 : decide (x6_1 < (l0_1.length : Int)) = false := decide_eq_false c18
              clear c18
              have H' := Aside0.mk H
              clear H
              have hnb122 := NB101_102.out
              have hnc122 := NB102_101.out
              have hnb123 := NB101_107.out
              have hnc123 := NB107_101.out
              have hcz124_0 : wr.cell? ⟨gb101, 0, none⟩ = some (.int .i8 a0_0) := (blk_cell BK101.out 0).trans rfl
              have hcz124_1 : wr.cell? ⟨gb101, 1, none⟩ = some (.slice A0_1 l0_1.length c0_1) := (blk_cell BK101.out 1).trans rfl
              have hcz124_2 : wr.cell? ⟨gb101, 2, none⟩ = some (.slice A0_2 l0_2.length c0_2) := (blk_cell BK101.out 2).trans rfl
              have hfz124_0 := blk_frozen BK101.out 0
              have hfz124_1 := blk_frozen BK101.out 1
              have hfz124_2 := blk_frozen BK101.out 2
              go_wp2
              go_loopg [9] k1 (fun kq v9 w' => ∃ (x9_2 : Int) (x108002_2 : List Int) (u108002 : Value), v9 = .int .i64 x9_2 ∧ Aside0 (spec_MergeCircuit.l2 kq x4_1 x9_2 a0_0 l0_1 l0_2 a0_0 x108001_1 x108002_2 = some (r1, r2, r3, r4)) ∧ Aside0 (kq ≤ k1) ∧ Aside0 (Kd.R (Kd.int .i16) 66 w' w.heap.size (fun k_ => some k_ ≠ (u108002 : Value).ownBlock) v105 x4_1) ∧ Aside0 (Kd.R k68 68 w' w.heap.size (fun _ => True) u108001 x108001_1) ∧ Aside0 (Kd.R (Kd.int .i16) 66 w' w.heap.size (fun k_ => some k_ ≠ (v105 : Value).ownBlock) u108002 x108002_2) ∧ Aside0 (w'.heap[gb101]? = some (.cells #[.int .i8 a0_0, (.slice A0_1 l0_1.length c0_1), (.slice A0_2 l0_2.length c0_2)] 30 (0, 0))) ∧ Aside0 (w'.heap[gb102]? = some (.cells #[.int .i8 0, (.slice none 0 0), (.slice none 0 0)] 30 (0, 0))) ∧ Aside0 (w'.heap[gb107]? = some (.cells #[.int .i8 a0_0, u108001, u108002] 30 (0, 0))) ∧ Aside0 (Below w.heap.size w w'))
              case atStart => exact ⟨(0), (([] : List Int)), (.slice none 0 0), (by first | rfl | (simp; done) | (simp [*]; done)), H', ⟨Nat.le_refl _⟩, ⟨by (with_reducible repeat (first | apply Kd.R_alloc | apply Kd.R_drewN | apply Kd.R_drew)); exact Kd.R_mono HO_4.out (fun _ hk => (by simp [Value.ownBlock]))⟩, ⟨by (with_reducible repeat (first | apply Kd.R_alloc | apply Kd.R_drewN | apply Kd.R_drew)); exact HO_108001.out⟩, ⟨by first | exact Kd.R_nil _ _ _ _ _ | exact Kd.N_nil _ _ _ _ _ | exact Kd.V_nil _ _ _ _ _ | exact Kd.Q_nil _ _ _ _ _ | exact Kd.S_nil _ _ _ _ _⟩, ⟨by (with_reducible repeat (first | refine blk_drewN ?_ _ | refine blk_drew ?_ | refine blk_alloc ?_ _)); exact BK101.out⟩, ⟨by (with_reducible repeat (first | refine blk_drewN ?_ _ | refine blk_drew ?_ | refine blk_alloc ?_ _)); exact BK102.out⟩, ⟨by (with_reducible repeat (first | refine blk_drewN ?_ _ | refine blk_drew ?_ | refine blk_alloc ?_ _)); exact BK107.out⟩, ⟨by repeat (first | (with_reducible first | exact HB.out | apply below_alloc | apply pw_below_drewN | apply below_drew1 | refine below_set ?_ GE101.out | refine below_set ?_ GE102.out | refine below_set ?_ GE107.out) | exact HB.out)⟩⟩
              case round =>
                clear H'
                try clear c1
                try clear p1
                try clear q1
                try clear hx1
                try clear hf1
                try clear p2
                try clear c5
                try clear c6
                try clear p6
                try clear q6
                try clear hx6
                try clear hf6
                try clear c7
                try clear c8
                try clear p8
                try clear q8
                try clear hx8
                try clear hf8
                try clear c9
                try clear p9
                try clear q9
                try clear hx9
                try clear hf9
                try clear c10
                try clear c11
                try clear p11
                try clear q11
                try clear hx11
                try clear hf11
                try clear c12
                try clear c18
                try clear c18b0
                try clear c19
                try clear c55
                try clear c55b0
                try clear c56
                try clear c60
                try clear c60b0
                try clear c60b1
                try clear c61
                try clear c62
                try clear c63
                try clear p64
                try clear q64
                try clear hx64
                try clear hf64
                try clear c67
                try clear c68
                try clear c69
                try clear c71
                try clear c72
                try clear c80
                try clear c80b0
                try clear c81
                try clear c81b0
                try clear p82
                try clear q82
                try clear hx82
                try clear hf82
                try clear c85
                try clear c86
                try clear c87
                try clear c91
                try clear c91b0
                try clear c91b1
                try clear c92
                try clear c93
                try clear c93b0
                try clear c94
                try clear c94b0
                try clear p95
                try clear q95
                try clear hx95
                try clear hf95
                try clear c98
                try clear c99
                try clear c100
                try clear c102
                try clear c103
                try clear c111
                try clear c111b0
                try clear c112
                try clear c112b0
                try clear p113
                try clear q113
                try clear hx113
                try clear hf113
                try clear c116
                try clear c117
                try clear c118
                try clear c122
                try clear c123
                try clear hcz101_0
                try clear hcz101_1
                try clear hcz101_2
                try clear hcz104_0
                try clear hcz104_1
                try clear hcz104_2
                try clear hcz107_0
                try clear hcz107_1
                try clear hcz107_2
                try clear hcz119_0
                try clear hcz119_1
                try clear hcz119_2
                try clear hcz124_0
                try clear hcz124_1
                try clear hcz124_2
                try clear hcz70_0
                try clear hcz70_1
                try clear hcz70_2
                try clear hcz73_0
                try clear hcz73_1
                try clear hcz73_2
                try clear hcz76_0
                try clear hcz76_1
                try clear hcz76_2
                try clear hcz88_0
                try clear hcz88_1
                try clear hcz88_2
                try clear hfz101_0
                try clear hfz101_1
                try clear hfz101_2
                try clear hfz104_0
                try clear hfz104_1
                try clear hfz104_2
                try clear hfz107_0
                try clear hfz107_1
                try clear hfz107_2
                try clear hfz119_0
                try clear hfz119_1
                try clear hfz119_2
                try clear hfz124_0
                try clear hfz124_1
                try clear hfz124_2
                try clear hfz70_0
                try clear hfz70_1
                try clear hfz70_2
                try clear hfz73_0
                try clear hfz73_1
                try clear hfz73_2
                try clear hfz76_0
                try clear hfz76_1
                try clear hfz76_2
                try clear hfz88_0
                try clear hfz88_1
                try clear hfz88_2
                try clear hx113_0
                try clear hx113_1
                try clear hx113_2
                try clear hx64_0
                try clear hx82_0
                try clear hx95_0
                try clear p113
                try clear p64
                try clear p82
                try clear p95
                try clear q113
                try clear q64
                try clear q82
                try clear q95
                obtain ⟨x9_2, x108002_2, u108002, rfl, HA, HK2, HO_4, HO_108001, HO_108002, BK101, BK102, BK107, HB⟩ := hrel
                cases gk with
                | zero => exact absurd HA.out (by simp [spec_MergeCircuit.l2])
                | succ k2 =>
                  have H := HA.out
                  clear HA
                  simp only [spec_MergeCircuit.l2] at H
                  by_cases c125 : x9_2 < (l0_2.length : Int)
                  · rw [if_pos c125] at H
                    have c125b0 : decide (x9_2 < (l0_2.length : Int)) = true := decide_eq_true c125
                    clear c125
                    by_cases c126 : 0 ≤ x9_2
                    · rw [if_pos c126] at H
                      have c126b0 : decide (0 ≤ x9_2) = true := decide_eq_true c126
                      clear c126
                      by_cases c127 : 0 ≤ (rd l0_2 x9_2)
                      · rw [if_pos c127] at H
                        have c127b0 : decide (0 ≤ (rd l0_2 x9_2)) = true := decide_eq_true c127
                        clear c127
                        by_cases c128 : (rd l0_2 x9_2) < (x4_1.length : Int)
                        · rw [if_pos c128] at H
                          have c128b0 : decide ((rd l0_2 x9_2) < (x4_1.length : Int)) = true := decide_eq_true c128
                          clear c128
                          by_cases c129 : x108002_2.length < 70368744177664
                          · rw [if_pos c129] at H
                            have LMc129 := Aside0.mk c129
                            clear c129
                            obtain ⟨y126, hy126⟩ : ∃ y_ : List Int, y_ = (x108002_2 ++ [rd x4_1 (rd l0_2 x9_2)]) := ⟨_, rfl⟩
                            replace H : (spec_MergeCircuit.l2 k2 x4_1 (wrap64 (x9_2 + 1)) a0_0 l0_1 l0_2 a0_0 x108001_1 y126) = some (r1, r2, r3, r4) := by first | (rw [hy126]; with_reducible exact H) | (have H2_ := (Option.bind_some _ _).symm.trans H; rw [hy126]; with_reducible exact H2_) | (have H2_ := (Option.bind_some _ _).symm.trans H; with_reducible exact H2_) | with_reducible exact H | (rw [hy126]; exact H) | exact H
                            have Ny126 := Aside0.mk hy126
                            clear hy126
                            have H' := Aside0.mk H
                            clear H
                            have hnb130 := NB101_102.out
                            have hnc130 := NB102_101.out
                            have hnb131 := NB101_107.out
                            have hnc131 := NB107_101.out
                            have hcz132_0 : wr.cell? ⟨gb101, 0, none⟩ = some (.int .i8 a0_0) := (blk_cell BK101.out 0).trans rfl
                            have hcz132_1 : wr.cell? ⟨gb101, 1, none⟩ = some (.slice A0_1 l0_1.length c0_1) := (blk_cell BK101.out 1).trans rfl
                            have hcz132_2 : wr.cell? ⟨gb101, 2, none⟩ = some (.slice A0_2 l0_2.length c0_2) := (blk_cell BK101.out 2).trans rfl
                            have hfz132_0 := blk_frozen BK101.out 0
                            have hfz132_1 := blk_frozen BK101.out 1
                            have hfz132_2 := blk_frozen BK101.out 2
                            try go_wp2
                            have n0_ := Aside0.mk (Kd.R_drew HO_4.out)
                            have n1_ := Aside0.mk (Kd.R_drew HO_108001.out)
                            have n2_ := Aside0.mk (Kd.R_drew HO_108002.out)
                            have n3_ := Aside0.mk (blk_drew BK101.out)
                            have n4_ := Aside0.mk (blk_drew BK102.out)
                            have n5_ := Aside0.mk (blk_drew BK107.out)
                            have n6_ := Aside0.mk (below_drew1 HB.out)
                            clear HO_4
                            clear HO_108001
                            clear HO_108002
                            clear BK101
                            clear BK102
                            clear BK107
                            clear HB
                            have HO_4 := n0_
                            have HO_108001 := n1_
                            have HO_108002 := n2_
                            have BK101 := n3_
                            have BK102 := n4_
                            have BK107 := n5_
                            have HB := n6_
                            clear n0_ n1_ n2_ n3_ n4_ n5_ n6_
                            have p124 : 0 ≤ (x9_2 : Int) := of_decide_eq_true (by first | (with_reducible assumption) | assumption)
                            have q124 : x9_2 < (l0_2.length : Int) := of_decide_eq_true (by first | (with_reducible assumption) | assumption)
                            obtain ⟨ad124, e124, hx124_0⟩ := Kd.at_int HR0_2.out x9_2 p124 q124
                            have hw124_0 := hx124_0
                            cases e124
                            replace hx124_0 := (HB.out.cell (World.block_lt_of_cell? w _ hx124_0)).trans hx124_0
                            replace p124 := eq_true p124
                            replace q124 := eq_true q124
                            obtain ⟨Ao134, co134, eo134⟩ := Kd.R_slice HO_4.out
                            (first | subst eo134 | (injection eo134 with f1_ f2_ f3_; have f4_ := f1_.symm; have f5_ := f3_.symm; clear f1_ f2_ f3_; subst f4_; subst f5_))
                            have p125 : 0 ≤ ((rd l0_2 x9_2) : Int) := of_decide_eq_true (by first | (with_reducible assumption) | assumption)
                            have q125 : (rd l0_2 x9_2) < (x4_1.length : Int) := of_decide_eq_true (by first | (with_reducible assumption) | assumption)
                            obtain ⟨ad125, e125, hx125_0⟩ := Kd.at_int (Kd.R_reads' HO_4.out).2.2 (rd l0_2 x9_2) p125 q125
                            cases e125
                            replace p125 := eq_true p125
                            replace q125 := eq_true q125
                            refine start_ (n := 14) (S := fun w' => w'.cell? ⟨gb107, 0, none⟩ = some (.int .i8 a0_0) ∧ w'.cell? ⟨gb107, 1, none⟩ = some (u108001) ∧ w'.cell? ⟨gb107, 2, none⟩ = some (u108002) ∧ w'.cell? ⟨gb101, 0, none⟩ = some (.int .i8 a0_0) ∧ w'.cell? ⟨gb101, 1, none⟩ = some (.slice A0_1 l0_1.length c0_1) ∧ w'.cell? ⟨gb101, 2, none⟩ = some (.slice (some ad124) l0_2.length c0_2) ∧ w'.cell? (ad124.add (x9_2).toNat) = some (.int .i16 (rd l0_2 x9_2)) ∧ w'.cell? (ad125.add ((rd l0_2 x9_2)).toNat) = some (.int .i16 (rd x4_1 (rd l0_2 x9_2)))) (ds := [11, 13]) #[false, false, false, false, false, false, false, false, false, false, false, false, false, false] (by kernel_rfl) rfl rfl ⟨(blk_cell BK107.out 0).trans rfl, (blk_cell BK107.out 1).trans rfl, (blk_cell BK107.out 2).trans rfl, (blk_cell BK101.out 0).trans rfl, (blk_cell BK101.out 1).trans rfl, (blk_cell BK101.out 2).trans rfl, ((HB.out.cell (World.block_lt_of_cell? w _ hw124_0)).trans hw124_0), hx125_0⟩ (fun hHeld => ?_); refine with_tabW spec_MergeCircuit.tab22 spec_MergeCircuit.bits22 (fun HT_ HW_ => ?_)
                            generalize wr.drew = w133 at HO_4 HO_108001 HO_108002 BK101 BK102 BK107 HB hx124_0 hx125_0 hHeld ⊢
                            refine pure_ (i := 0) (N := some 98) (v := ?_) (a' := ?_) #[true, false, false, false, false, false, false, false, false, false, false, false, false, false] rfl rfl (any_of HT_.out (by kernel_rfl)) (fun _ _ _ h => h) (Or.inl ⟨by rfl, ?_⟩) ?_ ?_
                            rotate_left
                            · intro w'
                              go_simp
                              with_reducible rfl
                            rotate_left
                            · simp only [Act.put, List.setIfInBounds_toArray, List.set_cons_zero, List.set_cons_succ, i64_w, i32_w]
                              rfl
                            refine pure_ (i := 2) (N := some 100) (v := ?_) (a' := ?_) #[true, false, true, false, false, false, false, false, false, false, false, false, false, false] rfl rfl (any_of HT_.out (by kernel_rfl)) (fun _ _ _ h => h) (Or.inl ⟨by rfl, ?_⟩) ?_ ?_
                            rotate_left
                            · intro w'
                              go_simp
                              with_reducible rfl
                            rotate_left
                            · simp only [Act.put, List.setIfInBounds_toArray, List.set_cons_zero, List.set_cons_succ, i64_w, i32_w]
                              rfl
                            refine pure_ (i := 3) (N := some 101) (v := ?_) (a' := ?_) #[true, false, true, true, false, false, false, false, false, false, false, false, false, false] rfl rfl (any_of HT_.out (by kernel_rfl)) (fun _ _ _ h => h) (Or.inl ⟨by rfl, ?_⟩) ?_ ?_
                            rotate_left
                            · intro w'
                              go_simp
                              with_reducible rfl
                            rotate_left
                            · simp only [Act.put, List.setIfInBounds_toArray, List.set_cons_zero, List.set_cons_succ, i64_w, i32_w]
                              rfl
                            refine pure_ (i := 5) (N := some 103) (v := ?_) (a' := ?_) #[true, false, true, true, false, true, false, false, false, false, false, false, false, false] rfl rfl (any_of HT_.out (by kernel_rfl)) (fun _ _ _ h => h) (Or.inl ⟨by rfl, ?_⟩) ?_ ?_
                            rotate_left
                            · intro w'
                              go_simp
                              with_reducible rfl
                            rotate_left
                            · simp only [Act.put, List.setIfInBounds_toArray, List.set_cons_zero, List.set_cons_succ, i64_w, i32_w]
                              rfl
                            refine take_ (i := 1) (N := some 99) (v := ?_) (a' := ?_) #[true, true, true, true, false, true, false, false, false, false, false, false, false, false] rfl rfl (take_ofW HT_.out HW_.out (by kernel_rfl)) (fun _ _ _ h => h) (Or.inl ⟨by rfl, ?_⟩) hHeld ?_ ?_
                            rotate_left
                            · rintro w' ⟨s0, s1, s2, s3, s4, s5, s6, s7⟩
                              go_simp
                              with_reducible rfl
                            rotate_left
                            · simp only [Act.put, List.setIfInBounds_toArray, List.set_cons_zero, List.set_cons_succ, i64_w, i32_w]
                              rfl
                            refine take_ (i := 4) (N := some 102) (v := ?_) (a' := ?_) #[true, true, true, true, true, true, false, false, false, false, false, false, false, false] rfl rfl (take_ofW HT_.out HW_.out (by kernel_rfl)) (fun _ _ _ h => h) (Or.inl ⟨by rfl, ?_⟩) hHeld ?_ ?_
                            rotate_left
                            · rintro w' ⟨s0, s1, s2, s3, s4, s5, s6, s7⟩
                              go_simp
                              with_reducible rfl
                            rotate_left
                            · simp only [Act.put, List.setIfInBounds_toArray, List.set_cons_zero, List.set_cons_succ, i64_w, i32_w]
                              rfl
                            refine pure_ (i := 6) (N := some 104) (v := ?_) (a' := ?_) #[true, true, true, true, true, true, true, false, false, false, false, false, false, false] rfl rfl (any_of HT_.out (by kernel_rfl)) (fun _ _ _ h => h) (Or.inl ⟨by rfl, ?_⟩) ?_ ?_
                            rotate_left
                            · intro w'
                              go_simp
                              with_reducible rfl
                            rotate_left
                            · simp only [Act.put, List.setIfInBounds_toArray, List.set_cons_zero, List.set_cons_succ, i64_w, i32_w]
                              rfl
                            refine take_ (i := 7) (N := some 105) (v := ?_) (a' := ?_) #[true, true, true, true, true, true, true, true, false, false, false, false, false, false] rfl rfl (take_ofW HT_.out HW_.out (by kernel_rfl)) (fun _ _ _ h => h) (Or.inl ⟨by rfl, ?_⟩) hHeld ?_ ?_
                            rotate_left
                            · rintro w' ⟨s0, s1, s2, s3, s4, s5, s6, s7⟩
                              go_simp
                              with_reducible rfl
                            rotate_left
                            · simp only [Act.put, List.setIfInBounds_toArray, List.set_cons_zero, List.set_cons_succ, i64_w, i32_w]
                              rfl
                            refine pure_ (i := 8) (N := some 106) (v := ?_) (a' := ?_) #[true, true, true, true, true, true, true, true, true, false, false, false, false, false] rfl rfl (any_of HT_.out (by kernel_rfl)) (fun _ _ _ h => h) (Or.inl ⟨by rfl, ?_⟩) ?_ ?_
                            rotate_left
                            · intro w'
                              go_simp
                              with_reducible rfl
                            rotate_left
                            · simp only [Act.put, List.setIfInBounds_toArray, List.set_cons_zero, List.set_cons_succ, i64_w, i32_w]
                              rfl
                            refine take_ (i := 9) (N := some 107) (v := ?_) (a' := ?_) #[true, true, true, true, true, true, true, true, true, true, false, false, false, false] rfl rfl (take_ofW HT_.out HW_.out (by kernel_rfl)) (fun _ _ _ h => h) (Or.inl ⟨by rfl, ?_⟩) hHeld ?_ ?_
                            rotate_left
                            · rintro w' ⟨s0, s1, s2, s3, s4, s5, s6, s7⟩
                              go_simp
                              with_reducible rfl
                            rotate_left
                            · simp only [Act.put, List.setIfInBounds_toArray, List.set_cons_zero, List.set_cons_succ, i64_w, i32_w]
                              rfl
                            refine one_ (i := 10) (N := some 108) #[true, true, true, true, true, true, true, true, true, true, true, false, false, false] rfl rfl (one_of HT_.out (by kernel_rfl)) (by decide) (fun K hK => ?_)
                            refine value_ (w1 := ?_) (v := ?_) (by rfl) rfl ?_ ?_
                            rotate_left 2
                            · go_simp
                              constructor
                              · rfl
                              · rfl
                            refine hK.out _ _ ⟨(blk_cell (blk_alloc BK107.out _) 0).trans rfl, (blk_cell (blk_alloc BK107.out _) 1).trans rfl, (blk_cell (blk_alloc BK107.out _) 2).trans rfl, (blk_cell (blk_alloc BK101.out _) 0).trans rfl, (blk_cell (blk_alloc BK101.out _) 1).trans rfl, (blk_cell (blk_alloc BK101.out _) 2).trans rfl, (World.cell?_alloc_lt _ _ _ (World.block_lt_of_cell? _ _ (((HB.out.cell (World.block_lt_of_cell? w _ hw124_0)).trans hw124_0)))).trans (((HB.out.cell (World.block_lt_of_cell? w _ hw124_0)).trans hw124_0)), (World.cell?_alloc_lt _ _ _ (World.block_lt_of_cell? _ _ (hHeld.2.2.2.2.2.2.2))).trans (hHeld.2.2.2.2.2.2.2)⟩ (fun hHeld => ?_)
                            clear hK K
                            refine norm_ (a' := ?_) ?_ ?_
                            rotate_left
                            · show Act.put _ (some 108) _ = _
                              simp only [Act.put, List.setIfInBounds_toArray, List.set_cons_zero, List.set_cons_succ, i64_w, i32_w]
                              rfl
                            refine last_ (i := 11) (N := some 109) #[true, true, true, true, true, true, true, true, true, true, true, true, false, false] rfl rfl (one_of HT_.out (by kernel_rfl)) (by decide) (fun K hK => ?_)
                            refine Kd.R_append_step (Kd.int .i16) (w0 := w) w.heap.size (by rfl) (.tmp 99) (.tmp 108) 24 66 (.int .i16 0) 2 rfl Try.underlying24 info66 rfl (by decide) (by omega) u108002 x108002_2 (rd x4_1 (rd l0_2 x9_2)) [.int .i16 (rd x4_1 (rd l0_2 x9_2))] (fun k_ => some k_ ≠ (.slice (some ad125) x4_1.length co134 : Value).ownBlock) (fun _ => False) rfl rfl ?aP (fun _ hk => hk.elim) ?aF ?aO ?aB ?aS ?aL ?_
                            (case aP => exact rfl)
                            (case aB => exact (by repeat (first | (with_reducible first | exact HB.out | apply below_alloc | apply pw_below_drewN | apply below_drew1 | refine below_set ?_ GE101.out | refine below_set ?_ GE102.out | refine below_set ?_ GE107.out) | exact HB.out)))
                            (case aF => exact (fun k_ hk => Kd.fresh' (Kd.R_lt (by (with_reducible repeat (first | apply Kd.R_alloc | apply Kd.R_drewN | apply Kd.R_drew)); exact HO_4.out)) k_ hk))
                            (case aO => exact (by (with_reducible repeat (first | apply Kd.R_alloc | apply Kd.R_drewN | apply Kd.R_drew)); exact HO_108002.out))
                            (case aS => exact (below_size (by repeat (first | (with_reducible first | exact HB.out | apply below_alloc | apply pw_below_drewN | apply below_drew1 | refine below_set ?_ GE101.out | refine below_set ?_ GE102.out | refine below_set ?_ GE107.out) | exact HB.out))))
                            (case aL => have := LMc129.out; omega)
                            intro v127 w135 ho hb hg hat
                            rw [← Ny126.out] at ho
                            have n0_ := Aside0.mk (Kd.R_after (ok := (fun _ => True)) (by (with_reducible repeat (first | apply Kd.R_alloc | apply Kd.R_drewN | apply Kd.R_drew)); exact Kd.R_mono HO_4.out (fun _ hk => ⟨trivial, hk⟩)) hg hat)
                            have n1_ := Aside0.mk (Kd.R_over' (by (with_reducible repeat (first | apply Kd.R_alloc | apply Kd.R_drewN | apply Kd.R_drew)); exact HO_108001.out) (Kd.R_typed (by (with_reducible repeat (first | apply Kd.R_alloc | apply Kd.R_drewN | apply Kd.R_drew)); exact HO_108002.out)) (by decide) hg)
                            have n2_ := Aside0.mk (blk_grown (g := gb101) (o := .cells #[.int .i8 a0_0, .slice A0_1 l0_1.length c0_1, .slice (some ad124) l0_2.length c0_2] 30 (0, 0)) (by (with_reducible repeat (first | refine blk_drewN ?_ _ | refine blk_drew ?_ | refine blk_alloc ?_ _)); exact BK101.out) hg (Kd.R_ne HO_108002.out BK101.out (by decide)))
                            have n3_ := Aside0.mk (blk_grown (g := gb102) (o := .cells #[.int .i8 0, .slice none 0 0, .slice none 0 0] 30 (0, 0)) (by (with_reducible repeat (first | refine blk_drewN ?_ _ | refine blk_drew ?_ | refine blk_alloc ?_ _)); exact BK102.out) hg (Kd.R_ne HO_108002.out BK102.out (by decide)))
                            have n4_ := Aside0.mk (blk_grown (g := gb107) (o := .cells #[.int .i8 a0_0, u108001, u108002] 30 (0, 0)) (by (with_reducible repeat (first | refine blk_drewN ?_ _ | refine blk_drew ?_ | refine blk_alloc ?_ _)); exact BK107.out) hg (Kd.R_ne HO_108002.out BK107.out (by decide)))
                            have n5_ := Aside0.mk (hb)
                            have n6_ := Aside0.mk (ho)
                            clear HO_4
                            clear HO_108001
                            clear BK101
                            clear BK102
                            clear BK107
                            clear HB
                            clear HO_108002
                            have HO_4 := n0_
                            have HO_108001 := n1_
                            have BK101 := n2_
                            have BK102 := n3_
                            have BK107 := n4_
                            have HB := n5_
                            have HO128 := n6_
                            clear n0_ n1_ n2_ n3_ n4_ n5_ n6_
                            clear ho hb hg hat
                            obtain ⟨Ao136, co136, eo136⟩ := Kd.R_slice HO128.out
                            (first | subst eo136 | (injection eo136 with f1_ f2_ f3_; have f4_ := f1_.symm; have f5_ := f3_.symm; clear f1_ f2_ f3_; subst f4_; subst f5_))
                            refine hK.out _ _ ?_
                            clear hK K
                            refine norm_ (a' := ?_) ?_ ?_
                            rotate_left
                            · show Act.put _ (some 109) _ = _
                              simp only [Act.put, List.setIfInBounds_toArray, List.set_cons_zero, List.set_cons_succ, i64_w, i32_w]
                              rfl
                            refine pure_ (i := 12) (N := some 110) (v := ?_) (a' := ?_) #[true, true, true, true, true, true, true, true, true, true, true, true, true, false] rfl rfl (any_of HT_.out (by kernel_rfl)) (fun _ _ _ h => h) (Or.inl ⟨by rfl, ?_⟩) ?_ ?_
                            rotate_left
                            · intro w'
                              go_simp
                              with_reducible rfl
                            rotate_left
                            · simp only [Act.put, List.setIfInBounds_toArray, List.set_cons_zero, List.set_cons_succ, i64_w, i32_w]
                              rfl
                            refine last_ (i := 13) (N := none) #[true, true, true, true, true, true, true, true, true, true, true, true, true, true] rfl rfl (one_of HT_.out (by kernel_rfl)) (by decide) (fun K hK => ?_)
                            have hs137 : w135.cell? ⟨gb107, 2, none⟩ = some (u108002) := (blk_cell BK107.out 2).trans rfl
                            have hfs137 := blk_frozen BK107.out 2
                            have hns137_0 := NB101_107.out
                            have hns137_1 := NB102_107.out
                            have hms137_0 := NB107_101.out
                            have hms137_1 := NB107_102.out
                            refine skip_ (w1 := ?_) (by rfl) rfl ?_ ?_
                            rotate_left
                            · go_simp
                              rfl
                            refine hK.out _ _ ?_
                            clear hK K
                            refine done_ (done_of HT_.out (by kernel_rfl)) ?_
                            try go_wp2
                            go_roundg k2
                            case measure => have := HK1.out; have := HK2.out; omega
                            case rel => exact ⟨(wrap64 (x9_2 + 1)), (y126), (.slice Ao136 y126.length co136), (by first | rfl | (simp; done) | (simp [*]; done)), H', ⟨by have := HK1.out; have := HK2.out; omega⟩, ⟨by (with_reducible repeat (first | apply Kd.R_alloc | apply Kd.R_drewN | apply Kd.R_drew)); exact Kd.R_mono (Kd.R_far (p := ⟨gb107, 2, none⟩) (Kd.R_types HO_4.out BK107.out (by decide)) (fun _ hk => hk.2) (.slice Ao136 y126.length co136)) (fun _ hk => hk.1.2)⟩, ⟨by (with_reducible repeat (first | apply Kd.R_alloc | apply Kd.R_drewN | apply Kd.R_drew)); exact Kd.R_mono (Kd.R_far (p := ⟨gb107, 2, none⟩) (Kd.R_types HO_108001.out BK107.out (by decide)) (fun _ hk => hk.2) (.slice Ao136 y126.length co136)) (fun _ hk => trivial)⟩, ⟨by (with_reducible repeat (first | apply Kd.R_alloc | apply Kd.R_drewN | apply Kd.R_drew)); exact Kd.R_mono (Kd.R_far (p := ⟨gb107, 2, none⟩) (Kd.R_types HO128.out BK107.out (by decide)) (fun _ hk => hk.2) (.slice Ao136 y126.length co136)) (fun _ hk => hk.1)⟩, ⟨by (with_reducible repeat (first | refine blk_drewN ?_ _ | refine blk_drew ?_ | refine blk_alloc ?_ _)); refine blk_far ?_ NB101_107.out _; (with_reducible repeat (first | refine blk_drewN ?_ _ | refine blk_drew ?_ | refine blk_alloc ?_ _)); exact BK101.out⟩, ⟨by (with_reducible repeat (first | refine blk_drewN ?_ _ | refine blk_drew ?_ | refine blk_alloc ?_ _)); refine blk_far ?_ NB102_107.out _; (with_reducible repeat (first | refine blk_drewN ?_ _ | refine blk_drew ?_ | refine blk_alloc ?_ _)); exact BK102.out⟩, ⟨by (with_reducible repeat (first | refine blk_drewN ?_ _ | refine blk_drew ?_ | refine blk_alloc ?_ _)); refine blk_put (cs := #[.int .i8 a0_0, u108001, u108002]) ?_ 2 _ rfl; (with_reducible repeat (first | refine blk_drewN ?_ _ | refine blk_drew ?_ | refine blk_alloc ?_ _)); exact BK107.out⟩, ⟨by repeat (first | (with_reducible first | exact HB.out | apply below_alloc | apply pw_below_drewN | apply below_drew1 | refine below_set ?_ GE101.out | refine below_set ?_ GE102.out | refine below_set ?_ GE107.out) | exact HB.out)⟩⟩
                          · rw [if_neg c129] at H
                            exact absurd H (by simp)
                        · rw [if_neg c128] at H
                          exact absurd H (by simp)
                      · rw [if_neg c127] at H
                        exact absurd H (by simp)
                    · rw [if_neg c126] at H
                      exact absurd H (by simp)
                  · rw [if_neg c125] at H
                    have c125b0 : decide (x9_2 < (l0_2.length : Int)) = false := decide_eq_false c125
                    clear c125
                    simp only [Option.some.injEq, Prod.mk.injEq] at H
                    obtain ⟨rfl, rfl, rfl, rfl⟩ := H
                    have hnb138 := NB101_102.out
                    have hnc138 := NB102_101.out
                    have hnb139 := NB101_107.out
                    have hnc139 := NB107_101.out
                    have hcz140_0 : wr.cell? ⟨gb101, 0, none⟩ = some (.int .i8 a0_0) := (blk_cell BK101.out 0).trans rfl
                    have hcz140_1 : wr.cell? ⟨gb101, 1, none⟩ = some (.slice A0_1 l0_1.length c0_1) := (blk_cell BK101.out 1).trans rfl
                    have hcz140_2 : wr.cell? ⟨gb101, 2, none⟩ = some (.slice A0_2 l0_2.length c0_2) := (blk_cell BK101.out 2).trans rfl
                    have hfz140_0 := blk_frozen BK101.out 0
                    have hfz140_1 := blk_frozen BK101.out 1
                    have hfz140_2 := blk_frozen BK101.out 2
                    have hnb141 := NB107_102.out
                    have hnc141 := NB102_107.out
                    have hcz142_0 : wr.cell? ⟨gb107, 0, none⟩ = some (.int .i8 a0_0) := (blk_cell BK107.out 0).trans rfl
                    have hcz142_1 : wr.cell? ⟨gb107, 1, none⟩ = some (u108001) := (blk_cell BK107.out 1).trans rfl
                    have hcz142_2 : wr.cell? ⟨gb107, 2, none⟩ = some (u108002) := (blk_cell BK107.out 2).trans rfl
                    have hfz142_0 := blk_frozen BK107.out 0
                    have hfz142_1 := blk_frozen BK107.out 1
                    have hfz142_2 := blk_frozen BK107.out 2
                    have hcz143_0 : wr.cell? ⟨gb102, 0, none⟩ = some (.int .i8 0) := (blk_cell BK102.out 0).trans rfl
                    have hcz143_1 : wr.cell? ⟨gb102, 1, none⟩ = some (.slice none 0 0) := (blk_cell BK102.out 1).trans rfl
                    have hcz143_2 : wr.cell? ⟨gb102, 2, none⟩ = some (.slice none 0 0) := (blk_cell BK102.out 2).trans rfl
                    have hfz143_0 := blk_frozen BK102.out 0
                    have hfz143_1 := blk_frozen BK102.out 1
                    have hfz143_2 := blk_frozen BK102.out 2
                    obtain ⟨Ao144, co144, eo144⟩ := Kd.R_slice HO_108001.out
                    subst eo144
                    obtain ⟨Ao145, co145, eo145⟩ := Kd.R_slice HO_108002.out
                    subst eo145
                    go_wp2
                    refine bodyPost_ret (results_ct rfl _ _ gb102 30 #[.int .i8 a0_0, .slice Ao144 x108001_1.length co144, .slice Ao145 x108002_2.length co145] (0, 0) _ rfl (by (with_reducible repeat (first | refine blk_drewN ?_ _ | refine blk_drew ?_ | refine blk_alloc ?_ _)); refine blk_put (cs := #[.int .i8 a0_0, .slice Ao144 x108001_1.length co144, .slice none 0 0]) ?_ 2 _ rfl; (with_reducible repeat (first | refine blk_drewN ?_ _ | refine blk_drew ?_ | refine blk_alloc ?_ _)); refine blk_put (cs := #[.int .i8 a0_0, .slice none 0 0, .slice none 0 0]) ?_ 1 _ rfl; (with_reducible repeat (first | refine blk_drewN ?_ _ | refine blk_drew ?_ | refine blk_alloc ?_ _)); refine blk_put (cs := #[.int .i8 0, .slice none 0 0, .slice none 0 0]) ?_ 0 _ rfl; (with_reducible repeat (first | refine blk_drewN ?_ _ | refine blk_drew ?_ | refine blk_alloc ?_ _)); exact BK102.out) Try.underlying30 rfl (by kernel_rfl)) rfl ?_
                    exact ⟨_, _, by first | rfl | (simp [errW_none, errW_some] <;> rfl) | (simp [*, errW_none, errW_some] <;> rfl), by (with_reducible repeat (first | apply Kd.R_alloc | apply Kd.R_drewN | apply Kd.R_drew)); exact Kd.R_mono (Kd.R_far (p := ⟨gb102, 2, none⟩) (Kd.R_far (p := ⟨gb102, 1, none⟩) (Kd.R_far (p := ⟨gb102, 0, none⟩) (Kd.R_types HO_108001.out BK102.out (by decide)) (fun _ hk => hk.2) (.int .i8 a0_0)) (fun _ hk => hk.2) (.slice Ao144 x108001_1.length co144)) (fun _ hk => hk.2) (.slice Ao145 x108002_2.length co145)) (fun _ hk => trivial), by (with_reducible repeat (first | apply Kd.R_alloc | apply Kd.R_drewN | apply Kd.R_drew)); exact Kd.R_mono (Kd.R_far (p := ⟨gb102, 2, none⟩) (Kd.R_far (p := ⟨gb102, 1, none⟩) (Kd.R_far (p := ⟨gb102, 0, none⟩) (Kd.R_types HO_108002.out BK102.out (by decide)) (fun _ hk => hk.2) (.int .i8 a0_0)) (fun _ hk => hk.2) (.slice Ao144 x108001_1.length co144)) (fun _ hk => hk.2) (.slice Ao145 x108002_2.length co145)) (fun _ hk => trivial), by repeat (first | (with_reducible first | exact HB.out | apply below_alloc | apply pw_below_drewN | apply below_drew1 | refine below_set ?_ GE101.out | refine below_set ?_ GE102.out | refine below_set ?_ GE107.out) | exact HB.out)⟩
      · rw [if_neg c5] at H
        exact absurd H (by simp)
    · rw [if_neg c4] at H
      exact absurd H (by simp)
  · replace c3 := Bool.eq_false_iff.mpr c3
    subst c3
    have H1 : (some (0, ([] : List (S68)), ([] : List Int), 1)) = some (r1, r2, r3, r4) := by rw [if_neg (show ¬ (false = true) by decide)] at H; exact H
    clear H
    have H := H1
    clear H1
    simp only [Option.some.injEq, Prod.mk.injEq] at H
    obtain ⟨rfl, rfl, rfl, rfl⟩ := H
    go_enter Try.func16, Try.ntmps16
    go_wp2_with (first | ((with_reducible refine gate_dst (N := 1) rfl ?_); refine box_event ?hg (N := 1) ?hd (cs := #[.int .i8 a0_0, .slice A0_1 l0_1.length c0_1, .slice A0_2 l0_2.length c0_2]) (t := 30) ?hr ?_; (case hd => rfl); (case hg => rfl); (case hr => first | (go_simp; done) | (go_simp; rfl)); intro gb101 hg w146 hbox hb; have n0_ := Aside0.mk (below_step (by repeat (first | (with_reducible first | exact HB.out | apply below_alloc | apply pw_below_drewN | apply below_drew1) | exact HB.out)) hb); have n1_ := Aside0.mk (hbox); have n2_ := Aside0.mk ((by rw [hg]; exact (below_size (by repeat (first | (with_reducible first | exact HB.out | apply below_alloc | apply pw_below_drewN | apply below_drew1) | exact HB.out))) : w.heap.size ≤ gb101)); have n3_ := Aside0.mk ((by rw [hg]; exact (below_size (by repeat (first | (with_reducible first | exact HB.out | apply below_alloc | apply pw_below_drewN | apply below_drew1) | exact HB.out))) : w.heap.size ≤ gb101)); clear HB; have HB := n0_; have BK101 := n1_; have GW101 := n2_; have GE101 := n3_; clear n0_ n1_ n2_ n3_; clear hb hbox hg) | ((with_reducible refine gate_dst (N := 2) rfl ?_); refine box_event ?hg (N := 2) ?hd (cs := #[.int .i8 0, .slice none 0 0, .slice none 0 0]) (t := 30) ?hr ?_; (case hd => rfl); (case hg => rfl); (case hr => first | (go_simp; done) | (go_simp; rfl)); intro gb102 hg w147 hbox hb; have n0_ := Aside0.mk (blk_below (g := gb101) (o := .cells #[.int .i8 a0_0, .slice A0_1 l0_1.length c0_1, .slice A0_2 l0_2.length c0_2] 30 (0, 0)) (by (with_reducible repeat (first | refine blk_drewN ?_ _ | refine blk_drew ?_ | refine blk_alloc ?_ _)); exact BK101.out) hb); have n1_ := Aside0.mk (below_step (by repeat (first | (with_reducible first | exact HB.out | apply below_alloc | apply pw_below_drewN | apply below_drew1 | refine below_set ?_ GE101.out) | exact HB.out)) hb); have n2_ := Aside0.mk (hbox); have n3_ := Aside0.mk ((by rw [hg]; exact (below_size (by repeat (first | (with_reducible first | exact HB.out | apply below_alloc | apply pw_below_drewN | apply below_drew1 | refine below_set ?_ GE101.out) | exact HB.out))) : w.heap.size ≤ gb102)); have n4_ := Aside0.mk ((by rw [hg]; exact (below_size (by repeat (first | (with_reducible first | exact HB.out | apply below_alloc | apply pw_below_drewN | apply below_drew1 | refine below_set ?_ GE101.out) | exact HB.out))) : w.heap.size ≤ gb102)); have n5_ := Aside0.mk ((by rw [hg]; exact Nat.ne_of_lt (blk_lt (g := gb101) (o := .cells #[.int .i8 a0_0, .slice A0_1 l0_1.length c0_1, .slice A0_2 l0_2.length c0_2] 30 (0, 0)) (by (with_reducible repeat (first | refine blk_drewN ?_ _ | refine blk_drew ?_ | refine blk_alloc ?_ _)); exact BK101.out)) : gb101 ≠ gb102)); have n6_ := Aside0.mk ((by rw [hg]; exact Nat.ne_of_gt (blk_lt (g := gb101) (o := .cells #[.int .i8 a0_0, .slice A0_1 l0_1.length c0_1, .slice A0_2 l0_2.length c0_2] 30 (0, 0)) (by (with_reducible repeat (first | refine blk_drewN ?_ _ | refine blk_drew ?_ | refine blk_alloc ?_ _)); exact BK101.out)) : gb102 ≠ gb101)); clear BK101; clear HB; have BK101 := n0_; have HB := n1_; have BK102 := n2_; have GW102 := n3_; have GE102 := n4_; have NB101_102 := n5_; have NB102_101 := n6_; clear n0_ n1_ n2_ n3_ n4_ n5_ n6_; clear hb hbox hg) | ((with_reducible refine gate_callee (f := 43) rfl ?_); refine goesL_ (some 10) rfl rfl Try.func43 (by kernel_rfl) rfl #[.pointer (some ⟨gb101, 0, none⟩)] rfl (by (try simp only [List.map_toArray, List.map_cons, List.map_nil]); first | done | rfl | (simp only [List.length_drop, List.length_take]; rfl)) ?_; (with_reducible refine (spec_l07Ok.calls k gb101 a0_0 A0_1 c0_1 l0_1 A0_2 c0_2 l0_2 false _ ?side1 ?side2 ?side3 ?side4 ?side5 A2.out).mono ?_); (case side1 => (with_reducible repeat (first | refine blk_drewN ?_ _ | refine blk_drew ?_ | refine blk_alloc ?_ _)); exact BK101.out); (case side2 => repeat (first | exact (Kd.C_below HR0_1.out HB.out) | (with_reducible refine Kd.C_alloc ?_ _) | (with_reducible refine Kd.C_drewN ?_ _) | (with_reducible refine Kd.C_drew ?_))); (case side3 => exact HC0_1.out); (case side4 => repeat (first | exact (Kd.C_below HR0_2.out HB.out) | (with_reducible refine Kd.C_alloc ?_ _) | (with_reducible refine Kd.C_drewN ?_ _) | (with_reducible refine Kd.C_drew ?_))); (case side5 => exact HC0_2.out); rintro e w148 ⟨rfl, hb⟩; refine ⟨_, rfl, ?_⟩; have n0_ := Aside0.mk (blk_below (g := gb101) (o := .cells #[.int .i8 a0_0, .slice A0_1 l0_1.length c0_1, .slice A0_2 l0_2.length c0_2] 30 (0, 0)) (by (with_reducible repeat (first | refine blk_drewN ?_ _ | refine blk_drew ?_ | refine blk_alloc ?_ _)); exact BK101.out) hb); have n1_ := Aside0.mk (blk_below (g := gb102) (o := .cells #[.int .i8 0, .slice none 0 0, .slice none 0 0] 30 (0, 0)) (by (with_reducible repeat (first | refine blk_drewN ?_ _ | refine blk_drew ?_ | refine blk_alloc ?_ _)); exact BK102.out) hb); have n2_ := Aside0.mk (below_step (by repeat (first | (with_reducible first | exact HB.out | apply below_alloc | apply pw_below_drewN | apply below_drew1 | refine below_set ?_ GE101.out | refine below_set ?_ GE102.out) | exact HB.out)) hb); clear BK101; clear BK102; clear HB; have BK101 := n0_; have BK102 := n1_; have HB := n2_; clear n0_ n1_ n2_; (try clear hb); (try clear hb2); (try clear hk); (try clear hi); have hnb149 := NB102_101.out; have hnc149 := NB101_102.out; have hcz150_0 : w148.cell? ⟨gb102, 0, none⟩ = some (.int .i8 0) := (blk_cell BK102.out 0).trans rfl; have hcz150_1 : w148.cell? ⟨gb102, 1, none⟩ = some (.slice none 0 0) := (blk_cell BK102.out 1).trans rfl; have hcz150_2 : w148.cell? ⟨gb102, 2, none⟩ = some (.slice none 0 0) := (blk_cell BK102.out 2).trans rfl; have hfz150_0 := blk_frozen BK102.out 0; have hfz150_1 := blk_frozen BK102.out 1; have hfz150_2 := blk_frozen BK102.out 2))
    refine bodyPost_ret (results_ct rfl _ _ gb102 30 #[.int .i8 0, .slice none 0 0, .slice none 0 0] (0, 0) _ rfl (by (with_reducible repeat (first | refine blk_drewN ?_ _ | refine blk_drew ?_ | refine blk_alloc ?_ _)); refine blk_put (cs := #[.int .i8 0, .slice none 0 0, .slice none 0 0]) ?_ 2 _ rfl; (with_reducible repeat (first | refine blk_drewN ?_ _ | refine blk_drew ?_ | refine blk_alloc ?_ _)); refine blk_put (cs := #[.int .i8 0, .slice none 0 0, .slice none 0 0]) ?_ 1 _ rfl; (with_reducible repeat (first | refine blk_drewN ?_ _ | refine blk_drew ?_ | refine blk_alloc ?_ _)); refine blk_put (cs := #[.int .i8 0, .slice none 0 0, .slice none 0 0]) ?_ 0 _ rfl; (with_reducible repeat (first | refine blk_drewN ?_ _ | refine blk_drew ?_ | refine blk_alloc ?_ _)); exact BK102.out) Try.underlying30 rfl (by kernel_rfl)) rfl ?_
    exact ⟨_, _, by first | rfl | (simp [errW_none, errW_some] <;> rfl) | (simp [*, errW_none, errW_some] <;> rfl), by first | exact Kd.R_nil _ _ _ _ _ | exact Kd.N_nil _ _ _ _ _ | exact Kd.V_nil _ _ _ _ _ | exact Kd.Q_nil _ _ _ _ _ | exact Kd.S_nil _ _ _ _ _, by first | exact Kd.R_nil _ _ _ _ _ | exact Kd.N_nil _ _ _ _ _ | exact Kd.V_nil _ _ _ _ _ | exact Kd.Q_nil _ _ _ _ _ | exact Kd.S_nil _ _ _ _ _, by repeat (first | (with_reducible first | exact HB.out | apply below_alloc | apply pw_below_drewN | apply below_drew1 | refine below_set ?_ GE101.out | refine below_set ?_ GE102.out) | exact HB.out)⟩
end Go.Proofs.Yteanndgkjoinmaa.X

namespace Go.Proofs.Yteanndgkjoinmaa.X
open Go.RowKit Go.Proofs.YteanndgkjoinmaaW.PrintWords Go.Proofs.YteanndgkjoinmaaW.PrintLast Go.Proofs.YteanndgkjoinmaaW.PrintMore
set_option linter.unusedVariables false
set_option linter.unusedSimpArgs false
theorem heap_size_setCell (w : World) (p : Addr) (u : Value) : (w.setCell p u).heap.size = w.heap.size := by simp [World.setCell]
set_option maxHeartbeats 8000000 in
set_option maxRecDepth 100000 in
theorem add_calls (gp : Nat) (a0 : Int) (u1 u2 : Value) (lg : List S68) (y0 y1 y2 : Int) (ok : Nat → Prop) (w0 w : World) (hB : Below w0.heap.size w0 w) (hgp : w0.heap.size ≤ gp) (hbk : w.heap[gp]? = some (.cells #[.int .i8 a0, u1, u2] 30 (0, 0))) (hr : Kd.R k68 68 w w0.heap.size ok u1 lg) (hfresh : ∀ k, w.heap.size ≤ k → ok k) (hl : lg.length < 23456248059221) :
    Calls Try.prog 60 #[.pointer (some ⟨gp, 0, none⟩), .agg #[.int .i8 y0, .int .i16 y1, .int .i16 y2]] w fun e w' => ∃ u1', e = .returned (.int .i16 (IntKind.i16.wrap lg.length)) ∧ Kd.R k68 68 w' w0.heap.size ok u1' (lg ++ [⟨y0, y1, y2⟩]) ∧ w'.heap[gp]? = some (.cells #[.int .i8 a0, u1', u2] 30 (0, 0)) ∧ Below w0.heap.size w0 w' ∧ w.heap.size ≤ w'.heap.size ∧ (∀ i, i < w.heap.size → i ≠ gp → some i ≠ u1.ownBlock → w'.heap[i]? = w.heap[i]?) ∧ (u1'.ownBlock = u1.ownBlock ∨ ∃ b, u1'.ownBlock = some b ∧ w.heap.size ≤ b) := by
  have hu30 := Try.underlying30
  have hu68 := Try.underlying68
  have HB := Aside0.mk hB
  have HG := Aside0.mk hgp
  have BK := Aside0.mk hbk
  have HR := Aside0.mk hr
  have HF := Aside0.mk hfresh
  have HL := Aside0.mk hl
  have HW := Aside0.mk (Below.refl w.heap.size w)
  clear hB hgp hbk hr hfresh hl
  obtain ⟨A9, c9, e9⟩ := Kd.R_slice HR.out
  subst e9
  go_enter Try.func60, Try.ntmps60
  go_wp2_with (first | ((with_reducible refine gate_dst (N := 3) rfl ?_); refine box_event ?hg (N := 3) ?hd (cs := #[.int .i8 y0, .int .i16 y1, .int .i16 y2]) (t := 68) ?hr ?_; (case hd => rfl); (case hg => rfl); (case hr => first | (go_simp; done) | (go_simp; rfl)); intro gb hg w1 hbox hb; have BG := Aside0.mk hbox; have HW1 := Aside0.mk hb; have HB1 := Aside0.mk (below_step HB.out hb); have BK1 := Aside0.mk (blk_below (g := gp) (o := .cells #[.int .i8 a0, .slice A9 lg.length c9, u2] 30 (0, 0)) BK.out hb); have HR1 := Aside0.mk (Kd.R_below HR.out hb); clear hb hbox; have HGE := Aside0.mk hg; clear hg))
  refine start_ (n := 11) (S := fun w' => w'.cell? ⟨gp, 0, none⟩ = some (.int .i8 a0) ∧ w'.cell? ⟨gp, 1, none⟩ = some (.slice A9 lg.length c9) ∧ w'.cell? ⟨gp, 2, none⟩ = some u2 ∧ w'.cell? ⟨gb, 0, none⟩ = some (.int .i8 y0) ∧ w'.cell? ⟨gb, 1, none⟩ = some (.int .i16 y1) ∧ w'.cell? ⟨gb, 2, none⟩ = some (.int .i16 y2)) (ds := [7, 10]) #[false, false, false, false, false, false, false, false, false, false, false] (by kernel_rfl) rfl rfl ⟨(blk_cell BK1.out 0).trans rfl, (blk_cell BK1.out 1).trans rfl, (blk_cell BK1.out 2).trans rfl, (blk_cell BG.out 0).trans rfl, (blk_cell BG.out 1).trans rfl, (blk_cell BG.out 2).trans rfl⟩ (fun hHeld => ?_)
  have HWd := Aside0.mk (Below.drew HW1.out)
  have HBd := Aside0.mk (Below.drew HB1.out)
  have BKd := Aside0.mk (show w1.drew.heap[gp]? = _ from BK1.out)
  have BGd := Aside0.mk (show w1.drew.heap[gb]? = _ from BG.out)
  have HRd := Aside0.mk (Kd.R_drew HR1.out)
  clear HW1 HB1 BK1 BG HR1
  generalize w1.drew = w2 at HWd HBd BKd BGd HRd hHeld ⊢
  refine pure_ (i := 0) (N := some 5) (v := ?_) (a' := ?_) #[true, false, false, false, false, false, false, false, false, false, false] rfl rfl (by kernel_rfl) (fun _ _ _ h => h) (Or.inl ⟨by rfl, ?_⟩) ?_ ?_
  rotate_left
  · intro w'
    go_simp
    with_reducible rfl
  rotate_left
  · simp only [Act.put, List.setIfInBounds_toArray, List.set_cons_zero, List.set_cons_succ, i64_w, i32_w]
    rfl
  refine pure_ (i := 1) (N := some 6) (v := ?_) (a' := ?_) #[true, true, false, false, false, false, false, false, false, false, false] rfl rfl (by kernel_rfl) (fun _ _ _ h => h) (Or.inl ⟨by rfl, ?_⟩) ?_ ?_
  rotate_left
  · intro w'
    go_simp
    with_reducible rfl
  rotate_left
  · simp only [Act.put, List.setIfInBounds_toArray, List.set_cons_zero, List.set_cons_succ, i64_w, i32_w]
    rfl
  refine pure_ (i := 2) (N := some 7) (v := ?_) (a' := ?_) #[true, true, true, false, false, false, false, false, false, false, false] rfl rfl (by kernel_rfl) (fun _ _ _ h => h) (Or.inl ⟨by rfl, ?_⟩) ?_ ?_
  rotate_left
  · intro w'
    go_simp
    with_reducible rfl
  rotate_left
  · simp only [Act.put, List.setIfInBounds_toArray, List.set_cons_zero, List.set_cons_succ, i64_w, i32_w]
    rfl
  refine pure_ (i := 3) (N := some 8) (v := ?_) (a' := ?_) #[true, true, true, true, false, false, false, false, false, false, false] rfl rfl (by kernel_rfl) (fun _ _ _ h => h) (Or.inl ⟨by rfl, ?_⟩) ?_ ?_
  rotate_left
  · intro w'
    go_simp
    with_reducible rfl
  rotate_left
  · simp only [Act.put, List.setIfInBounds_toArray, List.set_cons_zero, List.set_cons_succ, i64_w, i32_w]
    rfl
  refine take_ (i := 4) (N := some 9) (v := ?_) (a' := ?_) #[true, true, true, true, true, false, false, false, false, false, false] rfl rfl (by kernel_rfl) (fun _ _ _ h => h) (Or.inl ⟨by rfl, ?_⟩) hHeld ?_ ?_
  rotate_left
  · rintro w' ⟨s0, s1, s2, s3, s4, s5⟩
    go_simp
    with_reducible rfl
  rotate_left
  · simp only [Act.put, List.setIfInBounds_toArray, List.set_cons_zero, List.set_cons_succ, i64_w, i32_w]
    rfl
  refine take_ (i := 5) (N := some 10) (v := ?_) (a' := ?_) #[true, true, true, true, true, true, false, false, false, false, false] rfl rfl (by kernel_rfl) (fun _ _ _ h => h) (Or.inl ⟨by rfl, ?_⟩) hHeld ?_ ?_
  rotate_left
  · rintro w' ⟨s0, s1, s2, s3, s4, s5⟩
    go_simp
    with_reducible rfl
  rotate_left
  · simp only [Act.put, List.setIfInBounds_toArray, List.set_cons_zero, List.set_cons_succ, i64_w, i32_w]
    rfl
  refine one_ (i := 6) (N := some 11) #[true, true, true, true, true, true, true, false, false, false, false] rfl rfl (by kernel_rfl) (by decide) (fun K hK => ?_)
  refine value_ (w1 := ?_) (v := ?_) (by rfl) rfl ?_ ?_
  rotate_left 2
  · go_simp
    constructor
    · rfl
    · rfl
  refine hK.out _ _ ⟨(blk_cell (blk_alloc BKd.out _) 0).trans rfl, (blk_cell (blk_alloc BKd.out _) 1).trans rfl, (blk_cell (blk_alloc BKd.out _) 2).trans rfl, (blk_cell (blk_alloc BGd.out _) 0).trans rfl, (blk_cell (blk_alloc BGd.out _) 1).trans rfl, (blk_cell (blk_alloc BGd.out _) 2).trans rfl⟩ (fun hHeld => ?_)
  clear hK K
  refine norm_ (a' := ?_) ?_ ?_
  rotate_left
  · show Act.put _ (some 11) _ = _
    simp only [Act.put, List.setIfInBounds_toArray, List.set_cons_zero, List.set_cons_succ, i64_w, i32_w]
    rfl
  refine last_ (i := 7) (N := some 12) #[true, true, true, true, true, true, true, true, false, false, false] rfl rfl (by kernel_rfl) (by decide) (fun K hK => ?_)
  refine Kd.R_append_step k68 (w0 := w0) w0.heap.size (by rfl) (.tmp 9) (.tmp 11) 28 68 (.agg #[.int .i8 0, .int .i16 0, .int .i16 0]) 6 rfl Try.underlying28 info68 rfl (by decide) (by omega) (.slice A9 lg.length c9) lg ⟨y0, y1, y2⟩ [.int .i8 y0, .int .i16 y1, .int .i16 y2] ok (fun _ => False) rfl rfl ?aP (fun _ hk => hk.elim) ?aF ?aO ?aB ?aS ?aL ?_
  (case aP => exact k68_mkM _ _ _ _)
  (case aF => exact fun k hk => HF.out k (Nat.le_trans HWd.out.size hk))
  (case aO => exact HRd.out)
  (case aB => exact HBd.out)
  (case aS => exact HBd.out.size)
  (case aL => have := HL.out; omega)
  intro v1 w3 ho hb hg hat
  have hne := Kd.R_ne HRd.out BKd.out (by decide)
  have BK3 := Aside0.mk (blk_grown (g := gp) (o := .cells #[.int .i8 a0, .slice A9 lg.length c9, u2] 30 (0, 0)) BKd.out hg hne)
  have HO3 := Aside0.mk ho
  have HB3 := Aside0.mk hb
  have HG3 := Aside0.mk hg
  have HAT := Aside0.mk hat
  have HNE := Aside0.mk hne
  clear ho hb hg hat hne HRd BGd hHeld
  obtain ⟨A12, c12, e12⟩ := Kd.R_slice HO3.out
  subst e12
  have hs3 : w3.cell? ⟨gp, 1, none⟩ = some (.slice A9 lg.length c9) := (blk_cell BK3.out 1).trans rfl
  have hf3 := blk_frozen BK3.out 1
  refine hK.out _ _ ?_
  clear hK K
  refine norm_ (a' := ?_) ?_ ?_
  rotate_left
  · show Act.put _ (some 12) _ = _
    simp only [Act.put, List.setIfInBounds_toArray, List.set_cons_zero, List.set_cons_succ, i64_w, i32_w]
    rfl
  refine pure_ (i := 8) (N := some 13) (v := ?_) (a' := ?_) #[true, true, true, true, true, true, true, true, true, false, false] rfl rfl (by kernel_rfl) (fun _ _ _ h => h) (Or.inl ⟨by rfl, ?_⟩) ?_ ?_
  rotate_left
  · intro w'
    go_simp
    with_reducible rfl
  rotate_left
  · simp only [Act.put, List.setIfInBounds_toArray, List.set_cons_zero, List.set_cons_succ, i64_w, i32_w]
    rfl
  refine pure_ (i := 9) (N := some 14) (v := ?_) (a' := ?_) #[true, true, true, true, true, true, true, true, true, true, false] rfl rfl (by kernel_rfl) (fun _ _ _ h => h) (Or.inl ⟨by rfl, ?_⟩) ?_ ?_
  rotate_left
  · intro w'
    go_simp
    with_reducible rfl
  rotate_left
  · simp only [Act.put, List.setIfInBounds_toArray, List.set_cons_zero, List.set_cons_succ, i64_w, i32_w]
    rfl
  refine last_ (i := 10) (N := none) #[true, true, true, true, true, true, true, true, true, true, true] rfl rfl (by kernel_rfl) (by decide) (fun K hK => ?_)
  refine skip_ (w1 := ?_) (by rfl) rfl ?_ ?_
  rotate_left
  · go_simp
    rfl
  refine hK.out _ _ ?_
  clear hK K
  refine done_ (by kernel_rfl) ?_

  go_wp2
  go_ret
  have e1 : wrap64 (lg.length : Int) = lg.length := by have := HL.out; unfold wrap64; omega
  have HO4 := HO3.out
  have HAT4 := HAT.out
  have hlen : (lg ++ [(⟨y0, y1, y2⟩ : S68)]).length = lg.length + 1 := by simp
  rw [hlen] at HO4 HAT4
  refine ⟨.slice A12 (lg.length + 1) c12, congrArg (fun z => Ending.returned (.int .i16 (IntKind.i16.wrap z))) e1, Kd.R_set HO4 BK3.out (by decide) 1 _, blk_put BK3.out 1 _ rfl, below_set HB3.out HG.out, ?_, ?_, ?_⟩
  · rw [heap_size_setCell]; exact Nat.le_trans HWd.out.size HG3.out.size
  · intro i hi hg hne
    rw [Below.heap_setCell _ _ _ _ hg]
    exact (HG3.out.block i (Nat.lt_of_lt_of_le hi HWd.out.size) hne).trans (HWd.out.block i hi)
  · rcases HAT4 with h | ⟨b, h1, h2⟩
    · exact .inl h
    · exact .inr ⟨b, h1, Nat.le_trans HWd.out.size h2⟩
end Go.Proofs.Yteanndgkjoinmaa.X

-- Laid by wip/xprint.py of this session (the kit's print program, with some contracts given by hand). Not trusted: Lean checks it.
namespace Go.Proofs.Yteanndgkjoinmaa.X
open Go.RowKit Go.Proofs.YteanndgkjoinmaaW.PrintWords Go.Proofs.YteanndgkjoinmaaW.PrintLast Go.Proofs.YteanndgkjoinmaaW.PrintMore
attribute [local go_sem] max2_int min2_int max_two min_two max_three min_three max_four min_four
set_option linter.unusedVariables false
set_option linter.unusedSimpArgs false
def impl_Gate_isPair.f (a0_0 : Int) (a0_1 : Int) (a0_2 : Int) : Option (Bool) := if a0_0 = 2 then (some true) else (some (a0_0 == 3))
set_option maxHeartbeats 8000000 in
set_option maxRecDepth 100000 in
theorem impl_Gate_isPair.calls (a0_0 : Int) (a0_1 : Int) (a0_2 : Int) (r : Bool) (w : World) (h : impl_Gate_isPair.f a0_0 a0_1 a0_2 = some r) :
    Calls Try.prog 49 #[.agg #[.int .i8 a0_0, .int .i16 a0_1, .int .i16 a0_2]] w fun e w' => e = .returned (.bool r) ∧ Below w.heap.size w w' := by
  have hu68 := Try.underlying68
  have HB := Aside0.mk (Below.refl w.heap.size w)
  have H : (if a0_0 = 2 then (some true) else (some (a0_0 == 3))) = some r := h
  clear h
  by_cases c2 : a0_0 = 2
  · rw [if_pos c2] at H
    have c2b0 : (a0_0 == 2) = true := beq_iff_eq.mpr c2
    have c2b1 : (a0_0 != 2) = false := bne_eq_false_iff_eq.mpr c2
    clear c2
    obtain rfl := Option.some.inj H
    go_enter Try.func49, Try.ntmps49
    go_wp2_with (first | ((with_reducible refine gate_dst (N := 1) rfl ?_); refine box_event ?hg (N := 1) ?hd (cs := #[.int .i8 a0_0, .int .i16 a0_1, .int .i16 a0_2]) (t := 68) ?hr ?_; (case hd => rfl); (case hg => rfl); (case hr => first | (go_simp; done) | (go_simp; rfl)); intro gb101 hg w3 hbox hb; have n0_ := Aside0.mk (below_step (by repeat (first | (with_reducible first | exact HB.out | apply below_alloc | apply pw_below_drewN | apply below_drew1) | exact HB.out)) hb); have n1_ := Aside0.mk (hbox); have n2_ := Aside0.mk ((by rw [hg]; exact (below_size (by repeat (first | (with_reducible first | exact HB.out | apply below_alloc | apply pw_below_drewN | apply below_drew1) | exact HB.out))) : w.heap.size ≤ gb101)); have n3_ := Aside0.mk ((by rw [hg]; exact (below_size (by repeat (first | (with_reducible first | exact HB.out | apply below_alloc | apply pw_below_drewN | apply below_drew1) | exact HB.out))) : w.heap.size ≤ gb101)); clear HB; have HB := n0_; have BK101 := n1_; have GW101 := n2_; have GE101 := n3_; clear n0_ n1_ n2_ n3_; clear hb hbox hg; have hcz4_0 : w3.cell? ⟨gb101, 0, none⟩ = some (.int .i8 a0_0) := (blk_cell BK101.out 0).trans rfl; have hcz4_1 : w3.cell? ⟨gb101, 1, none⟩ = some (.int .i16 a0_1) := (blk_cell BK101.out 1).trans rfl; have hcz4_2 : w3.cell? ⟨gb101, 2, none⟩ = some (.int .i16 a0_2) := (blk_cell BK101.out 2).trans rfl; have hfz4_0 := blk_frozen BK101.out 0; have hfz4_1 := blk_frozen BK101.out 1; have hfz4_2 := blk_frozen BK101.out 2))
    go_ret
    exact ⟨by first | rfl | (simp [errW_none, errW_some] <;> rfl) | (simp [*, errW_none, errW_some] <;> rfl), by repeat (first | (with_reducible first | exact HB.out | apply below_alloc | apply pw_below_drewN | apply below_drew1 | refine below_set ?_ GE101.out) | exact HB.out)⟩
  · rw [if_neg c2] at H
    have c2b0 : (a0_0 == 2) = false := beq_eq_false_iff_ne.mpr c2
    have c2b1 : (a0_0 != 2) = true := bne_iff_ne.mpr c2
    obtain rfl := Option.some.inj H
    go_enter Try.func49, Try.ntmps49
    go_wp2_with (first | ((with_reducible refine gate_dst (N := 1) rfl ?_); refine box_event ?hg (N := 1) ?hd (cs := #[.int .i8 a0_0, .int .i16 a0_1, .int .i16 a0_2]) (t := 68) ?hr ?_; (case hd => rfl); (case hg => rfl); (case hr => first | (go_simp; done) | (go_simp; rfl)); intro gb101 hg w5 hbox hb; have n0_ := Aside0.mk (below_step (by repeat (first | (with_reducible first | exact HB.out | apply below_alloc | apply pw_below_drewN | apply below_drew1) | exact HB.out)) hb); have n1_ := Aside0.mk (hbox); have n2_ := Aside0.mk ((by rw [hg]; exact (below_size (by repeat (first | (with_reducible first | exact HB.out | apply below_alloc | apply pw_below_drewN | apply below_drew1) | exact HB.out))) : w.heap.size ≤ gb101)); have n3_ := Aside0.mk ((by rw [hg]; exact (below_size (by repeat (first | (with_reducible first | exact HB.out | apply below_alloc | apply pw_below_drewN | apply below_drew1) | exact HB.out))) : w.heap.size ≤ gb101)); clear HB; have HB := n0_; have BK101 := n1_; have GW101 := n2_; have GE101 := n3_; clear n0_ n1_ n2_ n3_; clear hb hbox hg; have hcz6_0 : w5.cell? ⟨gb101, 0, none⟩ = some (.int .i8 a0_0) := (blk_cell BK101.out 0).trans rfl; have hcz6_1 : w5.cell? ⟨gb101, 1, none⟩ = some (.int .i16 a0_1) := (blk_cell BK101.out 1).trans rfl; have hcz6_2 : w5.cell? ⟨gb101, 2, none⟩ = some (.int .i16 a0_2) := (blk_cell BK101.out 2).trans rfl; have hfz6_0 := blk_frozen BK101.out 0; have hfz6_1 := blk_frozen BK101.out 1; have hfz6_2 := blk_frozen BK101.out 2))
    go_ret
    exact ⟨by first | rfl | (simp [errW_none, errW_some] <;> rfl) | (simp [*, errW_none, errW_some] <;> rfl), by repeat (first | (with_reducible first | exact HB.out | apply below_alloc | apply pw_below_drewN | apply below_drew1 | refine below_set ?_ GE101.out) | exact HB.out)⟩
end Go.Proofs.Yteanndgkjoinmaa.X
