/- Texts of this claim, joined: what the claim's last text comes to. They hold without any condition beyond those that each states. -/
import Derived.Test.YtadfobooofkelaaYQuad2
-- Laid by wip/xprint.py of this session (the kit's print program, with some contracts given by hand). Not trusted: Lean checks it.
namespace Go.Proofs.Ytadfobooofkelaa.X
open Go.RowKit Go.Proofs.YtadfobooofkelaaW.PrintWords Go.Proofs.YtadfobooofkelaaW.PrintLast Go.Proofs.YtadfobooofkelaaW.PrintMore
attribute [local go_sem] max2_int min2_int max_two min_two max_three min_three max_four min_four
set_option linter.unusedVariables false
set_option linter.unusedSimpArgs false
mutual
def impl_halfRoot.l0 : Nat → Int → List (S175) → Int → Option (Int × Bool)
  | 0, _, _, _ => none
  | k + 1, x0, x4, x5 => if x5 < 16 then (if 0 ≤ x5 then ((impl_times.f k (shl .u16 1 x5) (shl .u16 1 x5)).bind fun t104 => (impl_halfRoot.l1 k x0 x4 x5 x4 (x4.length : Int) 0 (Go.bits .xor .u16 t104 (shl .u16 1 x5)) (shl .u16 1 x5))) else (none)) else (impl_halfRoot.l2 k x0 0 x4 (x4.length : Int) 0)
def impl_halfRoot.l1 : Nat → Int → List (S175) → Int → List (S175) → Int → Int → Int → Int → Option (Int × Bool)
  | 0, _, _, _, _, _, _, _, _ => none
  | k + 1, x0, x4, x5, x27, x28, x29, x106000, x106001 => if x29 < x28 then (if 0 ≤ x29 then (if x29 < (x27.length : Int) then (if (Go.bits .xor .u16 x106000 ((rd_T175 x27 x29).f0)) < x106000 then (impl_halfRoot.l1 k x0 x4 x5 x27 x28 (wrap64 (x29 + 1)) (Go.bits .xor .u16 x106000 ((rd_T175 x27 x29).f0)) (Go.bits .xor .u16 x106001 ((rd_T175 x27 x29).f1))) else (impl_halfRoot.l1 k x0 x4 x5 x27 x28 (wrap64 (x29 + 1)) x106000 x106001)) else (none)) else (none)) else (if x106000 = 0 then (impl_halfRoot.l0 k x0 x4 (wrap64 (x5 + 1))) else (if x4.length < 35184372088832 then ((impl_image.f (x4 ++ [(⟨x106000, x106001⟩ : S175)])).bind fun t111 => (impl_halfRoot.l0 k x0 t111 (wrap64 (x5 + 1)))) else (none)))
def impl_halfRoot.l2 : Nat → Int → Int → List (S175) → Int → Int → Option (Int × Bool)
  | 0, _, _, _, _, _ => none
  | k + 1, x0, x10, x63, x64, x65 => if x65 < x64 then (if 0 ≤ x65 then (if x65 < (x63.length : Int) then (if (Go.bits .xor .u16 x0 ((rd_T175 x63 x65).f0)) < x0 then (impl_halfRoot.l2 k (Go.bits .xor .u16 x0 ((rd_T175 x63 x65).f0)) (Go.bits .xor .u16 x10 ((rd_T175 x63 x65).f1)) x63 x64 (wrap64 (x65 + 1))) else (impl_halfRoot.l2 k x0 x10 x63 x64 (wrap64 (x65 + 1)))) else (none)) else (none)) else (some (Go.bits .andNot .u16 x10 1, (x0 == 0)))
end
def impl_halfRoot.f (k : Nat) (a0 : Int) : Option (Int × Bool) := impl_halfRoot.l0 k a0 (([] : List (S175))) 1
set_option maxHeartbeats 8000000 in
set_option maxRecDepth 100000 in
theorem impl_halfRoot.calls (k : Nat) (a0 : Int) (r1 : Int) (r2 : Bool) (w : World) (h : impl_halfRoot.f k a0 = some (r1, r2)) :
    Calls Try.prog 98 #[.int .u16 a0] w fun e w' => e = .returned (.tuple #[.int .u16 r1, .bool r2]) ∧ Below w.heap.size w w' := by
  have hu175 := Try.underlying175
  have HB := Aside0.mk (Below.refl w.heap.size w)
  have H : (impl_halfRoot.l0 k a0 (([] : List (S175))) 1) = some (r1, r2) := h
  clear h
  obtain ⟨y101, hy101⟩ : ∃ y_ : List (S175), y_ = (([] : List (S175))) := ⟨_, rfl⟩
  replace H : (impl_halfRoot.l0 k a0 y101 1) = some (r1, r2) := by first | (rw [hy101]; with_reducible exact H) | (have H2_ := (Option.bind_some _ _).symm.trans H; rw [hy101]; with_reducible exact H2_) | (have H2_ := (Option.bind_some _ _).symm.trans H; with_reducible exact H2_) | with_reducible exact H | (rw [hy101]; exact H) | exact H
  have Ny101 := Aside0.mk hy101
  clear hy101
  have H' := Aside0.mk H
  clear H
  go_enter Try.func98, Try.ntmps98
  go_wp2_with (first | ((with_reducible refine gate_dst (N := 13) rfl ?_); refine Kd.R_lit k175 _ 175 ?hg (N := 13) ?hd (xs := ([] : List (S175))) (inner := []) (ok := fun _ => True) (okp := fun _ => True) ?hr ?hp (fun _ hk => hk) trivial (Below.refl _ _) (Nat.le_refl _) (by simp) ?_; (case hd => rfl); (case hg => rfl); (case hr => first | (go_simp; done) | (go_simp; rfl)); (case hp => exact (Reps.none _ _)); intro v102 w2 ho3 hb hg_ hnew_; clear hg_ hnew_; (first | rw [← Ny101.out] at ho3 | (simp only [Int.reduceToNat] at ho3; rw [← Ny101.out] at ho3)); have n0_ := Aside0.mk (Kd.R_lower ho3 (below_size (by repeat (first | (with_reducible first | exact HB.out | apply below_alloc | apply pw_below_drewN | apply below_drew1) | exact HB.out)))); have n1_ := Aside0.mk (below_step (by repeat (first | (with_reducible first | exact HB.out | apply below_alloc | apply pw_below_drewN | apply below_drew1) | exact HB.out)) hb); clear HB; have HO103 := n0_; have HB := n1_; clear n0_ n1_; clear hb ho3))
  repeat (go_quiet (first | ((with_reducible refine gate_dst (N := 13) rfl ?_); refine Kd.R_lit k175 _ 175 ?hg (N := 13) ?hd (xs := ([] : List (S175))) (inner := []) (ok := fun _ => True) (okp := fun _ => True) ?hr ?hp (fun _ hk => hk) trivial (Below.refl _ _) (Nat.le_refl _) (by simp) ?_; (case hd => rfl); (case hg => rfl); (case hr => first | (go_simp; done) | (go_simp; rfl)); (case hp => exact (Reps.none _ _)); intro v102 w2 ho3 hb hg_ hnew_; clear hg_ hnew_; (first | rw [← Ny101.out] at ho3 | (simp only [Int.reduceToNat] at ho3; rw [← Ny101.out] at ho3)); have n0_ := Aside0.mk (Kd.R_lower ho3 (below_size (by repeat (first | (with_reducible first | exact HB.out | apply below_alloc | apply pw_below_drewN | apply below_drew1) | exact HB.out)))); have n1_ := Aside0.mk (below_step (by repeat (first | (with_reducible first | exact HB.out | apply below_alloc | apply pw_below_drewN | apply below_drew1) | exact HB.out)) hb); clear HB; have HO103 := n0_; have HB := n1_; clear n0_ n1_; clear hb ho3)); try go_wp2_with (first | ((with_reducible refine gate_dst (N := 13) rfl ?_); refine Kd.R_lit k175 _ 175 ?hg (N := 13) ?hd (xs := ([] : List (S175))) (inner := []) (ok := fun _ => True) (okp := fun _ => True) ?hr ?hp (fun _ hk => hk) trivial (Below.refl _ _) (Nat.le_refl _) (by simp) ?_; (case hd => rfl); (case hg => rfl); (case hr => first | (go_simp; done) | (go_simp; rfl)); (case hp => exact (Reps.none _ _)); intro v102 w2 ho3 hb hg_ hnew_; clear hg_ hnew_; (first | rw [← Ny101.out] at ho3 | (simp only [Int.reduceToNat] at ho3; rw [← Ny101.out] at ho3)); have n0_ := Aside0.mk (Kd.R_lower ho3 (below_size (by repeat (first | (with_reducible first | exact HB.out | apply below_alloc | apply pw_below_drewN | apply below_drew1) | exact HB.out)))); have n1_ := Aside0.mk (below_step (by repeat (first | (with_reducible first | exact HB.out | apply below_alloc | apply pw_below_drewN | apply below_drew1) | exact HB.out)) hb); clear HB; have HO103 := n0_; have HB := n1_; clear n0_ n1_; clear hb ho3)))
  go_loopg [4, 5] k (fun kq v4 v5 w' => ∃ (x4_1 : List (S175)) (x5_1 : Int), v5 = .int .i64 x5_1 ∧ Aside0 (impl_halfRoot.l0 kq a0 x4_1 x5_1 = some (r1, r2)) ∧ Aside0 (kq ≤ k) ∧ Aside0 (Kd.R k175 175 w' w.heap.size (fun _ => True) v4 x4_1) ∧ Aside0 (Below w.heap.size w w'))
  case atStart => exact ⟨(y101), (1), (by first | rfl | (simp; done) | (simp [*]; done)), H', ⟨Nat.le_refl _⟩, ⟨by (with_reducible repeat (first | apply Kd.R_alloc | apply Kd.R_drewN | apply Kd.R_drew)); exact HO103.out⟩, ⟨by repeat (first | (with_reducible first | exact HB.out | apply below_alloc | apply pw_below_drewN | apply below_drew1) | exact HB.out)⟩⟩
  case round =>
    clear H'
    try clear p2
    obtain ⟨x4_1, x5_1, rfl, HA, HK1, HO_4, HB⟩ := hrel
    cases gk with
    | zero => exact absurd HA.out (by simp [impl_halfRoot.l0])
    | succ k1 =>
      have H := HA.out
      clear HA
      simp only [impl_halfRoot.l0] at H
      by_cases c4 : x5_1 < 16
      · rw [if_pos c4] at H
        have c4b0 : decide (x5_1 < 16) = true := decide_eq_true c4
        clear c4
        by_cases c5 : 0 ≤ x5_1
        · rw [if_pos c5] at H
          have c5b0 := eq_true c5
          have c5b1 : decide (0 ≤ x5_1) = true := decide_eq_true c5
          clear c5
          obtain ⟨ji6, hji6⟩ : ∃ j_ : Int, (shl .u16 1 x5_1) = j_ := ⟨_, rfl⟩
          replace H : ((impl_times.f k1 (ji6) (ji6)).bind fun t104 => (impl_halfRoot.l1 k1 a0 x4_1 x5_1 x4_1 (x4_1.length : Int) 0 (Go.bits .xor .u16 t104 (ji6)) ji6)) = some (r1, r2) := by first | (rw [hji6] at H; exact H) | (simp only [hji6] at H ⊢; exact H)
          have hji6_ : (IntKind.u16.wrap (1 * 2 ^ min x5_1.toNat 16)) = ji6 := hji6
          have hji6z : x5_1 ≤ 16 → (IntKind.u16.wrap (1 * 2 ^ x5_1.toNat)) = ji6 := shl_small hji6
          have hji6u : (IntKind.u16.wrap (2 ^ min x5_1.toNat 16)) = ji6 := by have h_ := hji6_; rw [Int.one_mul] at h_; exact h_
          have hji6v : x5_1 ≤ 16 → (IntKind.u16.wrap (2 ^ x5_1.toNat)) = ji6 := fun hle_ => by have h_ := hji6z hle_; rw [Int.one_mul] at h_; exact h_
          replace H := Option.bind_eq_some_iff.mp H
          obtain ⟨t104, A70, H⟩ := H
          replace H : (impl_halfRoot.l1 k1 a0 x4_1 x5_1 x4_1 (x4_1.length : Int) 0 (Go.bits .xor .u16 t104 (ji6)) ji6) = some (r1, r2) := H
          have A7 := Aside0.mk A70
          clear A70
          have H' := Aside0.mk H
          clear H
          go_wp2_with (first | (go_at_call 90; (with_reducible refine (impl_times.calls k1 ji6 ji6 t104 _ A7.out).mono ?_); rintro e w' ⟨rfl, ⟨nd, rfl⟩⟩; (try first | exact ⟨rfl, _, World.drewN_drewN _ _ _⟩ | exact ⟨rfl, _, Eq.trans (World.drewN_drewN _ _ _) (congrArg (World.drewN _) (Nat.add_assoc _ _ _))⟩)) | ((with_reducible refine gate_dst (N := 7) rfl ?_); refine box_event ?hg (N := 7) ?hd (cs := #[.int .u16 0, .int .u16 0]) (t := 175) ?hr ?_; (case hd => rfl); (case hg => rfl); (case hr => first | (go_simp; done) | (go_simp; rfl)); intro gb105 hg w8 hbox hb; have n0_ := Aside0.mk (Kd.R_below (Kd.R_elderB (by (with_reducible repeat (first | apply Kd.R_alloc | apply Kd.R_drewN | apply Kd.R_drew)); exact HO_4.out) gb105 (Nat.le_of_eq hg.symm)) hb); have n1_ := Aside0.mk (below_step (by repeat (first | (with_reducible first | exact HB.out | apply below_alloc | apply pw_below_drewN | apply below_drew1) | exact HB.out)) hb); have n2_ := Aside0.mk (hbox); have n3_ := Aside0.mk ((by rw [hg]; exact (below_size (by repeat (first | (with_reducible first | exact HB.out | apply below_alloc | apply pw_below_drewN | apply below_drew1) | exact HB.out))) : w.heap.size ≤ gb105)); have n4_ := Aside0.mk ((by rw [hg]; exact (below_size (by repeat (first | (with_reducible first | exact HB.out | apply below_alloc | apply pw_below_drewN | apply below_drew1) | exact HB.out))) : w.heap.size ≤ gb105)); clear HO_4; clear HB; have HO_4 := n0_; have HB := n1_; have BK105 := n2_; have GW105 := n3_; have GE105 := n4_; clear n0_ n1_ n2_ n3_ n4_; clear hb hbox hg; have hcz9_0 : w8.cell? ⟨gb105, 0, none⟩ = some (.int .u16 0) := (blk_cell BK105.out 0).trans rfl; have hcz9_1 : w8.cell? ⟨gb105, 1, none⟩ = some (.int .u16 0) := (blk_cell BK105.out 1).trans rfl; have hfz9_0 := blk_frozen BK105.out 0; have hfz9_1 := blk_frozen BK105.out 1; obtain ⟨Ao10, co10, eo10⟩ := Kd.R_slice HO_4.out; subst eo10))
          repeat (go_quiet (first | (go_at_call 90; (with_reducible refine (impl_times.calls k1 ji6 ji6 t104 _ A7.out).mono ?_); rintro e w' ⟨rfl, ⟨nd, rfl⟩⟩; (try first | exact ⟨rfl, _, World.drewN_drewN _ _ _⟩ | exact ⟨rfl, _, Eq.trans (World.drewN_drewN _ _ _) (congrArg (World.drewN _) (Nat.add_assoc _ _ _))⟩)) | ((with_reducible refine gate_dst (N := 7) rfl ?_); refine box_event ?hg (N := 7) ?hd (cs := #[.int .u16 0, .int .u16 0]) (t := 175) ?hr ?_; (case hd => rfl); (case hg => rfl); (case hr => first | (go_simp; done) | (go_simp; rfl)); intro gb105 hg w8 hbox hb; have n0_ := Aside0.mk (Kd.R_below (Kd.R_elderB (by (with_reducible repeat (first | apply Kd.R_alloc | apply Kd.R_drewN | apply Kd.R_drew)); exact HO_4.out) gb105 (Nat.le_of_eq hg.symm)) hb); have n1_ := Aside0.mk (below_step (by repeat (first | (with_reducible first | exact HB.out | apply below_alloc | apply pw_below_drewN | apply below_drew1) | exact HB.out)) hb); have n2_ := Aside0.mk (hbox); have n3_ := Aside0.mk ((by rw [hg]; exact (below_size (by repeat (first | (with_reducible first | exact HB.out | apply below_alloc | apply pw_below_drewN | apply below_drew1) | exact HB.out))) : w.heap.size ≤ gb105)); have n4_ := Aside0.mk ((by rw [hg]; exact (below_size (by repeat (first | (with_reducible first | exact HB.out | apply below_alloc | apply pw_below_drewN | apply below_drew1) | exact HB.out))) : w.heap.size ≤ gb105)); clear HO_4; clear HB; have HO_4 := n0_; have HB := n1_; have BK105 := n2_; have GW105 := n3_; have GE105 := n4_; clear n0_ n1_ n2_ n3_ n4_; clear hb hbox hg; have hcz9_0 : w8.cell? ⟨gb105, 0, none⟩ = some (.int .u16 0) := (blk_cell BK105.out 0).trans rfl; have hcz9_1 : w8.cell? ⟨gb105, 1, none⟩ = some (.int .u16 0) := (blk_cell BK105.out 1).trans rfl; have hfz9_0 := blk_frozen BK105.out 0; have hfz9_1 := blk_frozen BK105.out 1; obtain ⟨Ao10, co10, eo10⟩ := Kd.R_slice HO_4.out; subst eo10)); try go_wp2_with (first | (go_at_call 90; (with_reducible refine (impl_times.calls k1 ji6 ji6 t104 _ A7.out).mono ?_); rintro e w' ⟨rfl, ⟨nd, rfl⟩⟩; (try first | exact ⟨rfl, _, World.drewN_drewN _ _ _⟩ | exact ⟨rfl, _, Eq.trans (World.drewN_drewN _ _ _) (congrArg (World.drewN _) (Nat.add_assoc _ _ _))⟩)) | ((with_reducible refine gate_dst (N := 7) rfl ?_); refine box_event ?hg (N := 7) ?hd (cs := #[.int .u16 0, .int .u16 0]) (t := 175) ?hr ?_; (case hd => rfl); (case hg => rfl); (case hr => first | (go_simp; done) | (go_simp; rfl)); intro gb105 hg w8 hbox hb; have n0_ := Aside0.mk (Kd.R_below (Kd.R_elderB (by (with_reducible repeat (first | apply Kd.R_alloc | apply Kd.R_drewN | apply Kd.R_drew)); exact HO_4.out) gb105 (Nat.le_of_eq hg.symm)) hb); have n1_ := Aside0.mk (below_step (by repeat (first | (with_reducible first | exact HB.out | apply below_alloc | apply pw_below_drewN | apply below_drew1) | exact HB.out)) hb); have n2_ := Aside0.mk (hbox); have n3_ := Aside0.mk ((by rw [hg]; exact (below_size (by repeat (first | (with_reducible first | exact HB.out | apply below_alloc | apply pw_below_drewN | apply below_drew1) | exact HB.out))) : w.heap.size ≤ gb105)); have n4_ := Aside0.mk ((by rw [hg]; exact (below_size (by repeat (first | (with_reducible first | exact HB.out | apply below_alloc | apply pw_below_drewN | apply below_drew1) | exact HB.out))) : w.heap.size ≤ gb105)); clear HO_4; clear HB; have HO_4 := n0_; have HB := n1_; have BK105 := n2_; have GW105 := n3_; have GE105 := n4_; clear n0_ n1_ n2_ n3_ n4_; clear hb hbox hg; have hcz9_0 : w8.cell? ⟨gb105, 0, none⟩ = some (.int .u16 0) := (blk_cell BK105.out 0).trans rfl; have hcz9_1 : w8.cell? ⟨gb105, 1, none⟩ = some (.int .u16 0) := (blk_cell BK105.out 1).trans rfl; have hfz9_0 := blk_frozen BK105.out 0; have hfz9_1 := blk_frozen BK105.out 1; obtain ⟨Ao10, co10, eo10⟩ := Kd.R_slice HO_4.out; subst eo10)))
          go_loopg [29] k1 (fun kq v29 w' => ∃ (x29_2 : Int) (x106000_2 : Int) (x106001_2 : Int), v29 = .int .i64 x29_2 ∧ Aside0 (impl_halfRoot.l1 kq a0 x4_1 x5_1 x4_1 (x4_1.length : Int) x29_2 x106000_2 x106001_2 = some (r1, r2)) ∧ Aside0 (kq ≤ k1) ∧ Aside0 (Kd.R k175 175 w' w.heap.size (fun k_ => k_ ≠ gb105) (.slice Ao10 x4_1.length co10) x4_1) ∧ Aside0 (Kd.R k175 175 w' w.heap.size (fun k_ => k_ ≠ gb105) (.slice Ao10 x4_1.length co10) x4_1) ∧ Aside0 (w'.heap[gb105]? = some (.cells #[.int .u16 x106000_2, .int .u16 x106001_2] 175 (0, 0))) ∧ Aside0 (Below w.heap.size w w'))
          case atStart => exact ⟨(0), (Go.bits .xor .u16 t104 (ji6)), (ji6), (by first | rfl | (simp; done) | (simp [*]; done)), H', ⟨Nat.le_refl _⟩, ⟨by (with_reducible repeat (first | apply Kd.R_alloc | apply Kd.R_drewN | apply Kd.R_drew)); exact Kd.R_mono (Kd.R_far (p := ⟨gb105, 1, none⟩) (Kd.R_far (p := ⟨gb105, 0, none⟩) (Kd.R_mono HO_4.out (fun k_ hk => (⟨hk, hk.2⟩ : _ ∧ k_ ≠ gb105))) (fun _ hk => hk.2) (.int .u16 (Go.bits .xor .u16 t104 (ji6)))) (fun _ hk => hk.2) (.int .u16 ji6)) (fun _ hk => hk.1.2)⟩, ⟨by (with_reducible repeat (first | apply Kd.R_alloc | apply Kd.R_drewN | apply Kd.R_drew)); exact Kd.R_mono (Kd.R_far (p := ⟨gb105, 1, none⟩) (Kd.R_far (p := ⟨gb105, 0, none⟩) (Kd.R_mono HO_4.out (fun k_ hk => (⟨hk, hk.2⟩ : _ ∧ k_ ≠ gb105))) (fun _ hk => hk.2) (.int .u16 (Go.bits .xor .u16 t104 (ji6)))) (fun _ hk => hk.2) (.int .u16 ji6)) (fun _ hk => hk.1.2)⟩, ⟨by (with_reducible repeat (first | refine blk_drewN ?_ _ | refine blk_drew ?_ | refine blk_alloc ?_ _)); refine blk_put (cs := #[.int .u16 (Go.bits .xor .u16 t104 (ji6)), .int .u16 0]) ?_ 1 _ rfl; (with_reducible repeat (first | refine blk_drewN ?_ _ | refine blk_drew ?_ | refine blk_alloc ?_ _)); refine blk_put (cs := #[.int .u16 0, .int .u16 0]) ?_ 0 _ rfl; (with_reducible repeat (first | refine blk_drewN ?_ _ | refine blk_drew ?_ | refine blk_alloc ?_ _)); exact BK105.out⟩, ⟨by repeat (first | (with_reducible first | exact HB.out | apply below_alloc | apply pw_below_drewN | apply below_drew1 | refine below_set ?_ GE105.out) | exact HB.out)⟩⟩
          case round =>
            clear H'
            try clear p2
            try clear c4
            try clear c4b0
            try clear c5
            try clear c5b0
            try clear c5b1
            try clear c9
            try clear hcz9_0
            try clear hcz9_1
            try clear hfz9_0
            try clear hfz9_1
            try clear p2
            obtain ⟨x29_2, x106000_2, x106001_2, rfl, HA, HK2, HO_4, HO_27, BK105, HB⟩ := hrel
            cases gk with
            | zero => exact absurd HA.out (by simp [impl_halfRoot.l1])
            | succ k2 =>
              have H := HA.out
              clear HA
              simp only [impl_halfRoot.l1] at H
              by_cases c11 : x29_2 < (x4_1.length : Int)
              · rw [if_pos c11] at H
                have c11b0 : decide (x29_2 < (x4_1.length : Int)) = true := decide_eq_true c11
                clear c11
                by_cases c12 : 0 ≤ x29_2
                · rw [if_pos c12] at H
                  have c12b0 : decide (0 ≤ x29_2) = true := decide_eq_true c12
                  clear c12
                  by_cases c13 : x29_2 < (x4_1.length : Int)
                  · rw [if_pos c13] at H
                    have c13b0 : decide (x29_2 < (x4_1.length : Int)) = true := decide_eq_true c13
                    clear c13
                    by_cases c14 : (Go.bits .xor .u16 x106000_2 ((rd_T175 x4_1 x29_2).f0)) < x106000_2
                    · rw [if_pos c14] at H
                      have c14b0 : decide ((Go.bits .xor .u16 x106000_2 ((rd_T175 x4_1 x29_2).f0)) < x106000_2) = true := decide_eq_true c14
                      clear c14
                      have H' := Aside0.mk H
                      clear H
                      have p106 : 0 ≤ (x29_2 : Int) := of_decide_eq_true (by first | (with_reducible assumption) | assumption)
                      have q106 : x29_2 < (x4_1.length : Int) := of_decide_eq_true (by first | (with_reducible assumption) | assumption)
                      obtain ⟨ad106, e106, hx106_0, hx106_1⟩ := at_T175 (Kd.R_reads' HO_27.out).2.2 x29_2 p106 q106
                      cases e106
                      replace p106 := eq_true p106
                      replace q106 := eq_true q106
                      go_wp2_with (first | ((with_reducible refine gate_dst (N := 9) rfl ?_); refine box_event ?hg (N := 9) ?hd (cs := #[.int .u16 0, .int .u16 0]) (t := 175) ?hr ?_; (case hd => rfl); (case hg => rfl); (case hr => first | (go_simp; done) | (go_simp; rfl)); intro gb107 hg w15 hbox hb; have n0_ := Aside0.mk (Kd.R_below (Kd.R_elderB (by (with_reducible repeat (first | apply Kd.R_alloc | apply Kd.R_drewN | apply Kd.R_drew)); exact HO_4.out) gb107 (Nat.le_of_eq hg.symm)) hb); have n1_ := Aside0.mk (Kd.R_below (Kd.R_elderB (by (with_reducible repeat (first | apply Kd.R_alloc | apply Kd.R_drewN | apply Kd.R_drew)); exact HO_27.out) gb107 (Nat.le_of_eq hg.symm)) hb); have n2_ := Aside0.mk (blk_below (g := gb105) (o := .cells #[.int .u16 x106000_2, .int .u16 x106001_2] 175 (0, 0)) (by (with_reducible repeat (first | refine blk_drewN ?_ _ | refine blk_drew ?_ | refine blk_alloc ?_ _)); exact BK105.out) hb); have n3_ := Aside0.mk (below_step (by repeat (first | (with_reducible first | exact HB.out | apply below_alloc | apply pw_below_drewN | apply below_drew1 | refine below_set ?_ GE105.out) | exact HB.out)) hb); have n4_ := Aside0.mk (hbox); have n5_ := Aside0.mk ((by rw [hg]; exact (below_size (by repeat (first | (with_reducible first | exact HB.out | apply below_alloc | apply pw_below_drewN | apply below_drew1 | refine below_set ?_ GE105.out) | exact HB.out))) : w.heap.size ≤ gb107)); have n6_ := Aside0.mk ((by rw [hg]; exact (below_size (by repeat (first | (with_reducible first | exact HB.out | apply below_alloc | apply pw_below_drewN | apply below_drew1 | refine below_set ?_ GE105.out) | exact HB.out))) : w.heap.size ≤ gb107)); have n7_ := Aside0.mk ((by rw [hg]; exact Nat.ne_of_lt (blk_lt (g := gb105) (o := .cells #[.int .u16 x106000_2, .int .u16 x106001_2] 175 (0, 0)) (by (with_reducible repeat (first | refine blk_drewN ?_ _ | refine blk_drew ?_ | refine blk_alloc ?_ _)); exact BK105.out)) : gb105 ≠ gb107)); have n8_ := Aside0.mk ((by rw [hg]; exact Nat.ne_of_gt (blk_lt (g := gb105) (o := .cells #[.int .u16 x106000_2, .int .u16 x106001_2] 175 (0, 0)) (by (with_reducible repeat (first | refine blk_drewN ?_ _ | refine blk_drew ?_ | refine blk_alloc ?_ _)); exact BK105.out)) : gb107 ≠ gb105)); clear HO_4; clear HO_27; clear BK105; clear HB; have HO_4 := n0_; have HO_27 := n1_; have BK105 := n2_; have HB := n3_; have BK107 := n4_; have GW107 := n5_; have GE107 := n6_; have NB105_107 := n7_; have NB107_105 := n8_; clear n0_ n1_ n2_ n3_ n4_ n5_ n6_ n7_ n8_; clear hb hbox hg; have hnb16 := NB107_105.out; have hnc16 := NB105_107.out; have hcz17_0 : w15.cell? ⟨gb107, 0, none⟩ = some (.int .u16 0) := (blk_cell BK107.out 0).trans rfl; have hcz17_1 : w15.cell? ⟨gb107, 1, none⟩ = some (.int .u16 0) := (blk_cell BK107.out 1).trans rfl; have hfz17_0 := blk_frozen BK107.out 0; have hfz17_1 := blk_frozen BK107.out 1; have hcz18_0 : w15.cell? ⟨gb105, 0, none⟩ = some (.int .u16 x106000_2) := (blk_cell BK105.out 0).trans rfl; have hcz18_1 : w15.cell? ⟨gb105, 1, none⟩ = some (.int .u16 x106001_2) := (blk_cell BK105.out 1).trans rfl; have hfz18_0 := blk_frozen BK105.out 0; have hfz18_1 := blk_frozen BK105.out 1))
                      -- UNDRAWN
                      refine start_ (n := 14) (S := fun w' => w'.cell? ⟨gb105, 1, none⟩ = some (.int .u16 x106001_2) ∧ w'.cell? ⟨gb107, 0, none⟩ = some (.int .u16 ((rd_T175 x4_1 x29_2).f0)) ∧ w'.cell? ⟨gb107, 1, none⟩ = some (.int .u16 ((rd_T175 x4_1 x29_2).f1))) (ds := [13]) #[false, false, false, false, false, false, false, false, false, false, false, false, false, false] (by kernel_rfl) rfl rfl ⟨(blk_cell (blk_drew (blk_far (p := ⟨gb107, 1, none⟩) (blk_far (p := ⟨gb107, 0, none⟩) BK105.out NB105_107.out (.int .u16 ((rd_T175 x4_1 x29_2).f0))) NB105_107.out (.int .u16 ((rd_T175 x4_1 x29_2).f1)))) 1).trans rfl, (blk_cell (blk_drew (blk_put (blk_put BK107.out 0 (.int .u16 ((rd_T175 x4_1 x29_2).f0)) rfl) 1 (.int .u16 ((rd_T175 x4_1 x29_2).f1)) rfl)) 0).trans rfl, (blk_cell (blk_drew (blk_put (blk_put BK107.out 0 (.int .u16 ((rd_T175 x4_1 x29_2).f0)) rfl) 1 (.int .u16 ((rd_T175 x4_1 x29_2).f1)) rfl)) 1).trans rfl⟩ (fun hHeld => ?_)
                      refine pure_ (i := 0) (N := some 41) (v := ?_) (a' := ?_) #[true, false, false, false, false, false, false, false, false, false, false, false, false, false] rfl rfl (by kernel_rfl) (fun _ _ _ h => h) (Or.inl ⟨by rfl, ?_⟩) ?_ ?_
                      rotate_left
                      · intro w'
                        go_simp
                        with_reducible rfl
                      rotate_left
                      · simp only [Act.put, List.setIfInBounds_toArray, List.set_cons_zero, List.set_cons_succ, i64_w, i32_w]
                        rfl
                      refine pure_ (i := 2) (N := some 43) (v := ?_) (a' := ?_) #[true, false, true, false, false, false, false, false, false, false, false, false, false, false] rfl rfl (by kernel_rfl) (fun _ _ _ h => h) (Or.inl ⟨by rfl, ?_⟩) ?_ ?_
                      rotate_left
                      · intro w'
                        go_simp
                        with_reducible rfl
                      rotate_left
                      · simp only [Act.put, List.setIfInBounds_toArray, List.set_cons_zero, List.set_cons_succ, i64_w, i32_w]
                        rfl
                      refine pure_ (i := 5) (N := some 46) (v := ?_) (a' := ?_) #[true, false, true, false, false, true, false, false, false, false, false, false, false, false] rfl rfl (by kernel_rfl) (fun _ _ _ h => h) (Or.inl ⟨by rfl, ?_⟩) ?_ ?_
                      rotate_left
                      · intro w'
                        go_simp
                        with_reducible rfl
                      rotate_left
                      · simp only [Act.put, List.setIfInBounds_toArray, List.set_cons_zero, List.set_cons_succ, i64_w, i32_w]
                        rfl
                      refine pure_ (i := 7) (N := some 48) (v := ?_) (a' := ?_) #[true, false, true, false, false, true, false, true, false, false, false, false, false, false] rfl rfl (by kernel_rfl) (fun _ _ _ h => h) (Or.inl ⟨by rfl, ?_⟩) ?_ ?_
                      rotate_left
                      · intro w'
                        go_simp
                        with_reducible rfl
                      rotate_left
                      · simp only [Act.put, List.setIfInBounds_toArray, List.set_cons_zero, List.set_cons_succ, i64_w, i32_w]
                        rfl
                      refine take_ (i := 3) (N := some 44) (v := ?_) (a' := ?_) #[true, false, true, true, false, true, false, true, false, false, false, false, false, false] rfl rfl (by kernel_rfl) (fun _ _ _ h => h) (Or.inl ⟨by rfl, ?_⟩) hHeld ?_ ?_
                      rotate_left
                      · rintro w' ⟨s0, s1, s2⟩
                        go_simp
                        with_reducible rfl
                      rotate_left
                      · simp only [Act.put, List.setIfInBounds_toArray, List.set_cons_zero, List.set_cons_succ, i64_w, i32_w]
                        rfl
                      refine take_ (i := 6) (N := some 47) (v := ?_) (a' := ?_) #[true, false, true, true, false, true, true, true, false, false, false, false, false, false] rfl rfl (by kernel_rfl) (fun _ _ _ h => h) (Or.inl ⟨by rfl, ?_⟩) hHeld ?_ ?_
                      rotate_left
                      · rintro w' ⟨s0, s1, s2⟩
                        go_simp
                        with_reducible rfl
                      rotate_left
                      · simp only [Act.put, List.setIfInBounds_toArray, List.set_cons_zero, List.set_cons_succ, i64_w, i32_w]
                        rfl
                      refine take_ (i := 8) (N := some 49) (v := ?_) (a' := ?_) #[true, false, true, true, false, true, true, true, true, false, false, false, false, false] rfl rfl (by kernel_rfl) (fun _ _ _ h => h) (Or.inl ⟨by rfl, ?_⟩) hHeld ?_ ?_
                      rotate_left
                      · rintro w' ⟨s0, s1, s2⟩
                        go_simp
                        with_reducible rfl
                      rotate_left
                      · simp only [Act.put, List.setIfInBounds_toArray, List.set_cons_zero, List.set_cons_succ, i64_w, i32_w]
                        rfl
                      refine pure_ (i := 9) (N := some 50) (v := ?_) (a' := ?_) #[true, false, true, true, false, true, true, true, true, true, false, false, false, false] rfl rfl (by kernel_rfl) (fun _ _ _ h => h) (Or.inl ⟨by rfl, ?_⟩) ?_ ?_
                      rotate_left
                      · intro w'
                        go_simp
                        with_reducible rfl
                      rotate_left
                      · simp only [Act.put, List.setIfInBounds_toArray, List.set_cons_zero, List.set_cons_succ, i64_w, i32_w]
                        rfl
                      refine one_ (i := 1) (N := some 42) #[true, true, true, true, false, true, true, true, true, true, false, false, false, false] rfl rfl (by kernel_rfl) (by decide) (fun K hK => ?_)
                      refine value_ (w1 := ?_) (v := ?_) (by rfl) rfl ?_ ?_
                      rotate_left 2
                      · go_simp
                        constructor
                        · rfl
                        · rfl
                      refine hK.out _ _ ⟨hHeld.1, hHeld.2.1, hHeld.2.2⟩ (fun hHeld => ?_)
                      clear hK K
                      refine norm_ (a' := ?_) ?_ ?_
                      rotate_left
                      · show Act.put _ (some 42) _ = _
                        simp only [Act.put, List.setIfInBounds_toArray, List.set_cons_zero, List.set_cons_succ, i64_w, i32_w]
                        rfl
                      refine pure_ (i := 4) (N := some 45) (v := ?_) (a' := ?_) #[true, true, true, true, true, true, true, true, true, true, false, false, false, false] rfl rfl (by kernel_rfl) (fun _ _ _ h => h) (Or.inl ⟨by rfl, ?_⟩) ?_ ?_
                      rotate_left
                      · intro w'
                        go_simp
                        with_reducible rfl
                      rotate_left
                      · simp only [Act.put, List.setIfInBounds_toArray, List.set_cons_zero, List.set_cons_succ, i64_w, i32_w]
                        rfl
                      refine pure_ (i := 10) (N := some 51) (v := ?_) (a' := ?_) #[true, true, true, true, true, true, true, true, true, true, true, false, false, false] rfl rfl (by kernel_rfl) (fun _ _ _ h => h) (Or.inl ⟨by rfl, ?_⟩) ?_ ?_
                      rotate_left
                      · intro w'
                        go_simp
                        with_reducible rfl
                      rotate_left
                      · simp only [Act.put, List.setIfInBounds_toArray, List.set_cons_zero, List.set_cons_succ, i64_w, i32_w]
                        rfl
                      refine one_ (i := 11) (N := none) #[true, true, true, true, true, true, true, true, true, true, true, true, false, false] rfl rfl (by kernel_rfl) (by decide) (fun K hK => ?_)
                      refine skip_ (w1 := ?_) (by rfl) rfl ?_ ?_
                      rotate_left
                      · go_simp
                        rfl
                      refine hK.out _ _ ⟨(by go_simp), (by go_simp), (by go_simp)⟩ (fun hHeld => ?_)
                      clear hK K
                      refine pure_ (i := 12) (N := some 52) (v := ?_) (a' := ?_) #[true, true, true, true, true, true, true, true, true, true, true, true, true, false] rfl rfl (by kernel_rfl) (fun _ _ _ h => h) (Or.inl ⟨by rfl, ?_⟩) ?_ ?_
                      rotate_left
                      · intro w'
                        go_simp
                        with_reducible rfl
                      rotate_left
                      · simp only [Act.put, List.setIfInBounds_toArray, List.set_cons_zero, List.set_cons_succ, i64_w, i32_w]
                        rfl
                      refine last_ (i := 13) (N := none) #[true, true, true, true, true, true, true, true, true, true, true, true, true, true] rfl rfl (by kernel_rfl) (by decide) (fun K hK => ?_)
                      refine skip_ (w1 := ?_) (by rfl) rfl ?_ ?_
                      rotate_left
                      · go_simp
                        rfl
                      refine hK.out _ _ ?_
                      clear hK K
                      refine done_ (by kernel_rfl) ?_

                      try go_wp2
                      go_roundg k2
                      case measure => have := HK1.out; have := HK2.out; omega
                      case rel => exact ⟨(wrap64 (x29_2 + 1)), (Go.bits .xor .u16 x106000_2 ((rd_T175 x4_1 x29_2).f0)), (Go.bits .xor .u16 x106001_2 ((rd_T175 x4_1 x29_2).f1)), (by first | rfl | (simp; done) | (simp [*]; done)), H', ⟨by have := HK1.out; have := HK2.out; omega⟩, ⟨by (with_reducible repeat (first | apply Kd.R_alloc | apply Kd.R_drewN | apply Kd.R_drew)); exact Kd.R_mono (Kd.R_far (p := ⟨gb105, 1, none⟩) (Kd.R_far (p := ⟨gb105, 0, none⟩) (Kd.R_far (p := ⟨gb107, 1, none⟩) (Kd.R_far (p := ⟨gb107, 0, none⟩) (Kd.R_mono (Kd.R_mono HO_4.out (fun k_ hk => (⟨hk, hk.2⟩ : _ ∧ k_ ≠ gb107))) (fun k_ hk => (⟨hk, hk.1.1⟩ : _ ∧ k_ ≠ gb105))) (fun _ hk => hk.1.2) (.int .u16 ((rd_T175 x4_1 x29_2).f0))) (fun _ hk => hk.1.2) (.int .u16 ((rd_T175 x4_1 x29_2).f1))) (fun _ hk => hk.2) (.int .u16 (Go.bits .xor .u16 x106000_2 ((rd_T175 x4_1 x29_2).f0)))) (fun _ hk => hk.2) (.int .u16 (Go.bits .xor .u16 x106001_2 ((rd_T175 x4_1 x29_2).f1)))) (fun _ hk => hk.1.1.1)⟩, ⟨by (with_reducible repeat (first | apply Kd.R_alloc | apply Kd.R_drewN | apply Kd.R_drew)); exact Kd.R_mono (Kd.R_far (p := ⟨gb105, 1, none⟩) (Kd.R_far (p := ⟨gb105, 0, none⟩) (Kd.R_far (p := ⟨gb107, 1, none⟩) (Kd.R_far (p := ⟨gb107, 0, none⟩) (Kd.R_mono (Kd.R_mono HO_27.out (fun k_ hk => (⟨hk, hk.2⟩ : _ ∧ k_ ≠ gb107))) (fun k_ hk => (⟨hk, hk.1.1⟩ : _ ∧ k_ ≠ gb105))) (fun _ hk => hk.1.2) (.int .u16 ((rd_T175 x4_1 x29_2).f0))) (fun _ hk => hk.1.2) (.int .u16 ((rd_T175 x4_1 x29_2).f1))) (fun _ hk => hk.2) (.int .u16 (Go.bits .xor .u16 x106000_2 ((rd_T175 x4_1 x29_2).f0)))) (fun _ hk => hk.2) (.int .u16 (Go.bits .xor .u16 x106001_2 ((rd_T175 x4_1 x29_2).f1)))) (fun _ hk => hk.1.1.1)⟩, ⟨by (with_reducible repeat (first | refine blk_drewN ?_ _ | refine blk_drew ?_ | refine blk_alloc ?_ _)); refine blk_put (cs := #[.int .u16 (Go.bits .xor .u16 x106000_2 ((rd_T175 x4_1 x29_2).f0)), .int .u16 x106001_2]) ?_ 1 _ rfl; (with_reducible repeat (first | refine blk_drewN ?_ _ | refine blk_drew ?_ | refine blk_alloc ?_ _)); refine blk_put (cs := #[.int .u16 x106000_2, .int .u16 x106001_2]) ?_ 0 _ rfl; (with_reducible repeat (first | refine blk_drewN ?_ _ | refine blk_drew ?_ | refine blk_alloc ?_ _)); refine blk_far ?_ NB105_107.out _; (with_reducible repeat (first | refine blk_drewN ?_ _ | refine blk_drew ?_ | refine blk_alloc ?_ _)); refine blk_far ?_ NB105_107.out _; (with_reducible repeat (first | refine blk_drewN ?_ _ | refine blk_drew ?_ | refine blk_alloc ?_ _)); exact BK105.out⟩, ⟨by repeat (first | (with_reducible first | exact HB.out | apply below_alloc | apply pw_below_drewN | apply below_drew1 | refine below_set ?_ GE105.out | refine below_set ?_ GE107.out) | exact HB.out)⟩⟩
                    · rw [if_neg c14] at H
                      have c14b0 : decide ((Go.bits .xor .u16 x106000_2 ((rd_T175 x4_1 x29_2).f0)) < x106000_2) = false := decide_eq_false c14
                      clear c14
                      have H' := Aside0.mk H
                      clear H
                      have p106 : 0 ≤ (x29_2 : Int) := of_decide_eq_true (by first | (with_reducible assumption) | assumption)
                      have q106 : x29_2 < (x4_1.length : Int) := of_decide_eq_true (by first | (with_reducible assumption) | assumption)
                      obtain ⟨ad106, e106, hx106_0, hx106_1⟩ := at_T175 (Kd.R_reads' HO_27.out).2.2 x29_2 p106 q106
                      cases e106
                      replace p106 := eq_true p106
                      replace q106 := eq_true q106
                      go_wp2_with (first | ((with_reducible refine gate_dst (N := 9) rfl ?_); refine box_event ?hg (N := 9) ?hd (cs := #[.int .u16 0, .int .u16 0]) (t := 175) ?hr ?_; (case hd => rfl); (case hg => rfl); (case hr => first | (go_simp; done) | (go_simp; rfl)); intro gb107 hg w19 hbox hb; have n0_ := Aside0.mk (Kd.R_below (Kd.R_elderB (by (with_reducible repeat (first | apply Kd.R_alloc | apply Kd.R_drewN | apply Kd.R_drew)); exact HO_4.out) gb107 (Nat.le_of_eq hg.symm)) hb); have n1_ := Aside0.mk (Kd.R_below (Kd.R_elderB (by (with_reducible repeat (first | apply Kd.R_alloc | apply Kd.R_drewN | apply Kd.R_drew)); exact HO_27.out) gb107 (Nat.le_of_eq hg.symm)) hb); have n2_ := Aside0.mk (blk_below (g := gb105) (o := .cells #[.int .u16 x106000_2, .int .u16 x106001_2] 175 (0, 0)) (by (with_reducible repeat (first | refine blk_drewN ?_ _ | refine blk_drew ?_ | refine blk_alloc ?_ _)); exact BK105.out) hb); have n3_ := Aside0.mk (below_step (by repeat (first | (with_reducible first | exact HB.out | apply below_alloc | apply pw_below_drewN | apply below_drew1 | refine below_set ?_ GE105.out) | exact HB.out)) hb); have n4_ := Aside0.mk (hbox); have n5_ := Aside0.mk ((by rw [hg]; exact (below_size (by repeat (first | (with_reducible first | exact HB.out | apply below_alloc | apply pw_below_drewN | apply below_drew1 | refine below_set ?_ GE105.out) | exact HB.out))) : w.heap.size ≤ gb107)); have n6_ := Aside0.mk ((by rw [hg]; exact (below_size (by repeat (first | (with_reducible first | exact HB.out | apply below_alloc | apply pw_below_drewN | apply below_drew1 | refine below_set ?_ GE105.out) | exact HB.out))) : w.heap.size ≤ gb107)); have n7_ := Aside0.mk ((by rw [hg]; exact Nat.ne_of_lt (blk_lt (g := gb105) (o := .cells #[.int .u16 x106000_2, .int .u16 x106001_2] 175 (0, 0)) (by (with_reducible repeat (first | refine blk_drewN ?_ _ | refine blk_drew ?_ | refine blk_alloc ?_ _)); exact BK105.out)) : gb105 ≠ gb107)); have n8_ := Aside0.mk ((by rw [hg]; exact Nat.ne_of_gt (blk_lt (g := gb105) (o := .cells #[.int .u16 x106000_2, .int .u16 x106001_2] 175 (0, 0)) (by (with_reducible repeat (first | refine blk_drewN ?_ _ | refine blk_drew ?_ | refine blk_alloc ?_ _)); exact BK105.out)) : gb107 ≠ gb105)); clear HO_4; clear HO_27; clear BK105; clear HB; have HO_4 := n0_; have HO_27 := n1_; have BK105 := n2_; have HB := n3_; have BK107 := n4_; have GW107 := n5_; have GE107 := n6_; have NB105_107 := n7_; have NB107_105 := n8_; clear n0_ n1_ n2_ n3_ n4_ n5_ n6_ n7_ n8_; clear hb hbox hg; have hnb20 := NB107_105.out; have hnc20 := NB105_107.out; have hcz21_0 : w19.cell? ⟨gb107, 0, none⟩ = some (.int .u16 0) := (blk_cell BK107.out 0).trans rfl; have hcz21_1 : w19.cell? ⟨gb107, 1, none⟩ = some (.int .u16 0) := (blk_cell BK107.out 1).trans rfl; have hfz21_0 := blk_frozen BK107.out 0; have hfz21_1 := blk_frozen BK107.out 1; have hcz22_0 : w19.cell? ⟨gb105, 0, none⟩ = some (.int .u16 x106000_2) := (blk_cell BK105.out 0).trans rfl; have hcz22_1 : w19.cell? ⟨gb105, 1, none⟩ = some (.int .u16 x106001_2) := (blk_cell BK105.out 1).trans rfl; have hfz22_0 := blk_frozen BK105.out 0; have hfz22_1 := blk_frozen BK105.out 1))
                      repeat (go_quiet (first | ((with_reducible refine gate_dst (N := 9) rfl ?_); refine box_event ?hg (N := 9) ?hd (cs := #[.int .u16 0, .int .u16 0]) (t := 175) ?hr ?_; (case hd => rfl); (case hg => rfl); (case hr => first | (go_simp; done) | (go_simp; rfl)); intro gb107 hg w19 hbox hb; have n0_ := Aside0.mk (Kd.R_below (Kd.R_elderB (by (with_reducible repeat (first | apply Kd.R_alloc | apply Kd.R_drewN | apply Kd.R_drew)); exact HO_4.out) gb107 (Nat.le_of_eq hg.symm)) hb); have n1_ := Aside0.mk (Kd.R_below (Kd.R_elderB (by (with_reducible repeat (first | apply Kd.R_alloc | apply Kd.R_drewN | apply Kd.R_drew)); exact HO_27.out) gb107 (Nat.le_of_eq hg.symm)) hb); have n2_ := Aside0.mk (blk_below (g := gb105) (o := .cells #[.int .u16 x106000_2, .int .u16 x106001_2] 175 (0, 0)) (by (with_reducible repeat (first | refine blk_drewN ?_ _ | refine blk_drew ?_ | refine blk_alloc ?_ _)); exact BK105.out) hb); have n3_ := Aside0.mk (below_step (by repeat (first | (with_reducible first | exact HB.out | apply below_alloc | apply pw_below_drewN | apply below_drew1 | refine below_set ?_ GE105.out) | exact HB.out)) hb); have n4_ := Aside0.mk (hbox); have n5_ := Aside0.mk ((by rw [hg]; exact (below_size (by repeat (first | (with_reducible first | exact HB.out | apply below_alloc | apply pw_below_drewN | apply below_drew1 | refine below_set ?_ GE105.out) | exact HB.out))) : w.heap.size ≤ gb107)); have n6_ := Aside0.mk ((by rw [hg]; exact (below_size (by repeat (first | (with_reducible first | exact HB.out | apply below_alloc | apply pw_below_drewN | apply below_drew1 | refine below_set ?_ GE105.out) | exact HB.out))) : w.heap.size ≤ gb107)); have n7_ := Aside0.mk ((by rw [hg]; exact Nat.ne_of_lt (blk_lt (g := gb105) (o := .cells #[.int .u16 x106000_2, .int .u16 x106001_2] 175 (0, 0)) (by (with_reducible repeat (first | refine blk_drewN ?_ _ | refine blk_drew ?_ | refine blk_alloc ?_ _)); exact BK105.out)) : gb105 ≠ gb107)); have n8_ := Aside0.mk ((by rw [hg]; exact Nat.ne_of_gt (blk_lt (g := gb105) (o := .cells #[.int .u16 x106000_2, .int .u16 x106001_2] 175 (0, 0)) (by (with_reducible repeat (first | refine blk_drewN ?_ _ | refine blk_drew ?_ | refine blk_alloc ?_ _)); exact BK105.out)) : gb107 ≠ gb105)); clear HO_4; clear HO_27; clear BK105; clear HB; have HO_4 := n0_; have HO_27 := n1_; have BK105 := n2_; have HB := n3_; have BK107 := n4_; have GW107 := n5_; have GE107 := n6_; have NB105_107 := n7_; have NB107_105 := n8_; clear n0_ n1_ n2_ n3_ n4_ n5_ n6_ n7_ n8_; clear hb hbox hg; have hnb20 := NB107_105.out; have hnc20 := NB105_107.out; have hcz21_0 : w19.cell? ⟨gb107, 0, none⟩ = some (.int .u16 0) := (blk_cell BK107.out 0).trans rfl; have hcz21_1 : w19.cell? ⟨gb107, 1, none⟩ = some (.int .u16 0) := (blk_cell BK107.out 1).trans rfl; have hfz21_0 := blk_frozen BK107.out 0; have hfz21_1 := blk_frozen BK107.out 1; have hcz22_0 : w19.cell? ⟨gb105, 0, none⟩ = some (.int .u16 x106000_2) := (blk_cell BK105.out 0).trans rfl; have hcz22_1 : w19.cell? ⟨gb105, 1, none⟩ = some (.int .u16 x106001_2) := (blk_cell BK105.out 1).trans rfl; have hfz22_0 := blk_frozen BK105.out 0; have hfz22_1 := blk_frozen BK105.out 1)); try go_wp2_with (first | ((with_reducible refine gate_dst (N := 9) rfl ?_); refine box_event ?hg (N := 9) ?hd (cs := #[.int .u16 0, .int .u16 0]) (t := 175) ?hr ?_; (case hd => rfl); (case hg => rfl); (case hr => first | (go_simp; done) | (go_simp; rfl)); intro gb107 hg w19 hbox hb; have n0_ := Aside0.mk (Kd.R_below (Kd.R_elderB (by (with_reducible repeat (first | apply Kd.R_alloc | apply Kd.R_drewN | apply Kd.R_drew)); exact HO_4.out) gb107 (Nat.le_of_eq hg.symm)) hb); have n1_ := Aside0.mk (Kd.R_below (Kd.R_elderB (by (with_reducible repeat (first | apply Kd.R_alloc | apply Kd.R_drewN | apply Kd.R_drew)); exact HO_27.out) gb107 (Nat.le_of_eq hg.symm)) hb); have n2_ := Aside0.mk (blk_below (g := gb105) (o := .cells #[.int .u16 x106000_2, .int .u16 x106001_2] 175 (0, 0)) (by (with_reducible repeat (first | refine blk_drewN ?_ _ | refine blk_drew ?_ | refine blk_alloc ?_ _)); exact BK105.out) hb); have n3_ := Aside0.mk (below_step (by repeat (first | (with_reducible first | exact HB.out | apply below_alloc | apply pw_below_drewN | apply below_drew1 | refine below_set ?_ GE105.out) | exact HB.out)) hb); have n4_ := Aside0.mk (hbox); have n5_ := Aside0.mk ((by rw [hg]; exact (below_size (by repeat (first | (with_reducible first | exact HB.out | apply below_alloc | apply pw_below_drewN | apply below_drew1 | refine below_set ?_ GE105.out) | exact HB.out))) : w.heap.size ≤ gb107)); have n6_ := Aside0.mk ((by rw [hg]; exact (below_size (by repeat (first | (with_reducible first | exact HB.out | apply below_alloc | apply pw_below_drewN | apply below_drew1 | refine below_set ?_ GE105.out) | exact HB.out))) : w.heap.size ≤ gb107)); have n7_ := Aside0.mk ((by rw [hg]; exact Nat.ne_of_lt (blk_lt (g := gb105) (o := .cells #[.int .u16 x106000_2, .int .u16 x106001_2] 175 (0, 0)) (by (with_reducible repeat (first | refine blk_drewN ?_ _ | refine blk_drew ?_ | refine blk_alloc ?_ _)); exact BK105.out)) : gb105 ≠ gb107)); have n8_ := Aside0.mk ((by rw [hg]; exact Nat.ne_of_gt (blk_lt (g := gb105) (o := .cells #[.int .u16 x106000_2, .int .u16 x106001_2] 175 (0, 0)) (by (with_reducible repeat (first | refine blk_drewN ?_ _ | refine blk_drew ?_ | refine blk_alloc ?_ _)); exact BK105.out)) : gb107 ≠ gb105)); clear HO_4; clear HO_27; clear BK105; clear HB; have HO_4 := n0_; have HO_27 := n1_; have BK105 := n2_; have HB := n3_; have BK107 := n4_; have GW107 := n5_; have GE107 := n6_; have NB105_107 := n7_; have NB107_105 := n8_; clear n0_ n1_ n2_ n3_ n4_ n5_ n6_ n7_ n8_; clear hb hbox hg; have hnb20 := NB107_105.out; have hnc20 := NB105_107.out; have hcz21_0 : w19.cell? ⟨gb107, 0, none⟩ = some (.int .u16 0) := (blk_cell BK107.out 0).trans rfl; have hcz21_1 : w19.cell? ⟨gb107, 1, none⟩ = some (.int .u16 0) := (blk_cell BK107.out 1).trans rfl; have hfz21_0 := blk_frozen BK107.out 0; have hfz21_1 := blk_frozen BK107.out 1; have hcz22_0 : w19.cell? ⟨gb105, 0, none⟩ = some (.int .u16 x106000_2) := (blk_cell BK105.out 0).trans rfl; have hcz22_1 : w19.cell? ⟨gb105, 1, none⟩ = some (.int .u16 x106001_2) := (blk_cell BK105.out 1).trans rfl; have hfz22_0 := blk_frozen BK105.out 0; have hfz22_1 := blk_frozen BK105.out 1)))
                      go_roundg k2
                      case measure => have := HK1.out; have := HK2.out; omega
                      case rel => exact ⟨(wrap64 (x29_2 + 1)), (x106000_2), (x106001_2), (by first | rfl | (simp; done) | (simp [*]; done)), H', ⟨by have := HK1.out; have := HK2.out; omega⟩, ⟨by (with_reducible repeat (first | apply Kd.R_alloc | apply Kd.R_drewN | apply Kd.R_drew)); exact Kd.R_mono (Kd.R_far (p := ⟨gb107, 1, none⟩) (Kd.R_far (p := ⟨gb107, 0, none⟩) (Kd.R_mono HO_4.out (fun k_ hk => (⟨hk, hk.2⟩ : _ ∧ k_ ≠ gb107))) (fun _ hk => hk.2) (.int .u16 ((rd_T175 x4_1 x29_2).f0))) (fun _ hk => hk.2) (.int .u16 ((rd_T175 x4_1 x29_2).f1))) (fun _ hk => hk.1.1)⟩, ⟨by (with_reducible repeat (first | apply Kd.R_alloc | apply Kd.R_drewN | apply Kd.R_drew)); exact Kd.R_mono (Kd.R_far (p := ⟨gb107, 1, none⟩) (Kd.R_far (p := ⟨gb107, 0, none⟩) (Kd.R_mono HO_27.out (fun k_ hk => (⟨hk, hk.2⟩ : _ ∧ k_ ≠ gb107))) (fun _ hk => hk.2) (.int .u16 ((rd_T175 x4_1 x29_2).f0))) (fun _ hk => hk.2) (.int .u16 ((rd_T175 x4_1 x29_2).f1))) (fun _ hk => hk.1.1)⟩, ⟨by (with_reducible repeat (first | refine blk_drewN ?_ _ | refine blk_drew ?_ | refine blk_alloc ?_ _)); refine blk_far ?_ NB105_107.out _; (with_reducible repeat (first | refine blk_drewN ?_ _ | refine blk_drew ?_ | refine blk_alloc ?_ _)); refine blk_far ?_ NB105_107.out _; (with_reducible repeat (first | refine blk_drewN ?_ _ | refine blk_drew ?_ | refine blk_alloc ?_ _)); exact BK105.out⟩, ⟨by repeat (first | (with_reducible first | exact HB.out | apply below_alloc | apply pw_below_drewN | apply below_drew1 | refine below_set ?_ GE105.out | refine below_set ?_ GE107.out) | exact HB.out)⟩⟩
                  · rw [if_neg c13] at H
                    exact absurd H (by simp)
                · rw [if_neg c12] at H
                  exact absurd H (by simp)
              · rw [if_neg c11] at H
                have c11b0 : decide (x29_2 < (x4_1.length : Int)) = false := decide_eq_false c11
                clear c11
                by_cases c23 : x106000_2 = 0
                · rw [if_pos c23] at H
                  have c23b0 : (x106000_2 == 0) = true := beq_iff_eq.mpr c23
                  have c23b1 : (x106000_2 != 0) = false := bne_eq_false_iff_eq.mpr c23
                  clear c23
                  have H' := Aside0.mk H
                  clear H
                  have hcz24_0 : wr.cell? ⟨gb105, 0, none⟩ = some (.int .u16 x106000_2) := (blk_cell BK105.out 0).trans rfl
                  have hcz24_1 : wr.cell? ⟨gb105, 1, none⟩ = some (.int .u16 x106001_2) := (blk_cell BK105.out 1).trans rfl
                  have hfz24_0 := blk_frozen BK105.out 0
                  have hfz24_1 := blk_frozen BK105.out 1
                  go_wp2
                  repeat (go_quiet (fail); try go_wp2)
                  go_roundg k2
                  case measure => have := HK1.out; have := HK2.out; omega
                  case rel => exact ⟨(x4_1), (wrap64 (x5_1 + 1)), (by first | rfl | (simp; done) | (simp [*]; done)), H', ⟨by have := HK1.out; have := HK2.out; omega⟩, ⟨by (with_reducible repeat (first | apply Kd.R_alloc | apply Kd.R_drewN | apply Kd.R_drew)); exact Kd.R_mono HO_4.out (fun _ hk => trivial)⟩, ⟨by repeat (first | (with_reducible first | exact HB.out | apply below_alloc | apply pw_below_drewN | apply below_drew1 | refine below_set ?_ GE105.out) | exact HB.out)⟩⟩
                · rw [if_neg c23] at H
                  have c23b0 : (x106000_2 == 0) = false := beq_eq_false_iff_ne.mpr c23
                  have c23b1 : (x106000_2 != 0) = true := bne_iff_ne.mpr c23
                  by_cases c25 : x4_1.length < 35184372088832
                  · rw [if_pos c25] at H
                    have LMc25 := Aside0.mk c25
                    clear c25
                    obtain ⟨y108, hy108⟩ : ∃ y_ : List (S175), y_ = (x4_1 ++ [(⟨x106000_2, x106001_2⟩ : S175)]) := ⟨_, rfl⟩
                    replace H : ((impl_image.f y108).bind fun t111 => (impl_halfRoot.l0 k2 a0 t111 (wrap64 (x5_1 + 1)))) = some (r1, r2) := by first | (rw [hy108]; with_reducible exact H) | (have H2_ := (Option.bind_some _ _).symm.trans H; rw [hy108]; with_reducible exact H2_) | (have H2_ := (Option.bind_some _ _).symm.trans H; with_reducible exact H2_) | with_reducible exact H | (rw [hy108]; exact H) | exact H
                    have Ny108 := Aside0.mk hy108
                    clear hy108
                    replace H := Option.bind_eq_some_iff.mp H
                    obtain ⟨t111, A260, H⟩ := H
                    replace H : (impl_halfRoot.l0 k2 a0 t111 (wrap64 (x5_1 + 1))) = some (r1, r2) := H
                    have A26 := Aside0.mk A260
                    clear A260
                    have H' := Aside0.mk H
                    clear H
                    have hcz27_0 : wr.cell? ⟨gb105, 0, none⟩ = some (.int .u16 x106000_2) := (blk_cell BK105.out 0).trans rfl
                    have hcz27_1 : wr.cell? ⟨gb105, 1, none⟩ = some (.int .u16 x106001_2) := (blk_cell BK105.out 1).trans rfl
                    have hfz27_0 := blk_frozen BK105.out 0
                    have hfz27_1 := blk_frozen BK105.out 1
                    go_wp2_with (first | ((with_reducible refine gate_builtin (b := .append) (xs := #[.tmp 57, .tmp 59]) rfl ?_); at_builtin; refine Kd.R_append k175 (w0 := w) w.heap.size rfl (.tmp 57) (.tmp 59) 173 175 (.agg #[(.int .u16 0), (.int .u16 0)]) 4 rfl Try.underlying173 info175 rfl (by decide) (by omega) (.slice Ao10 x4_1.length co10) x4_1 (⟨x106000_2, x106001_2⟩ : S175) [.int .u16 x106000_2, .int .u16 x106001_2] (fun k_ => k_ ≠ gb105) (fun _ => False) rfl rfl ?aP (fun _ hk => hk.elim) ?aF ?aO ?aB ?aS ?aL ?_; (case aP => exact k175_mkM _ _ _ (⟨x106000_2, x106001_2⟩ : S175)); (case aB => exact (by repeat (first | (with_reducible first | exact HB.out | apply below_alloc | apply pw_below_drewN | apply below_drew1 | refine below_set ?_ GE105.out) | exact HB.out))); (case aF => exact (fun k_ hk => Kd.freshB (g := gb105) (o := .cells #[.int .u16 x106000_2, .int .u16 x106001_2] 175 (0, 0)) (by (with_reducible repeat (first | refine blk_drewN ?_ _ | refine blk_drew ?_ | refine blk_alloc ?_ _)); exact BK105.out) k_ hk)); (case aO => exact (by (with_reducible repeat (first | apply Kd.R_alloc | apply Kd.R_drewN | apply Kd.R_drew)); exact HO_4.out)); (case aS => exact (below_size (by repeat (first | (with_reducible first | exact HB.out | apply below_alloc | apply pw_below_drewN | apply below_drew1 | refine below_set ?_ GE105.out) | exact HB.out)))); (case aL => have := LMc25.out; omega); intro v109 w28 ho hb hg hat; rw [← Ny108.out] at ho; have n0_ := Aside0.mk (blk_grown (g := gb105) (o := .cells #[.int .u16 x106000_2, .int .u16 x106001_2] 175 (0, 0)) (by (with_reducible repeat (first | refine blk_drewN ?_ _ | refine blk_drew ?_ | refine blk_alloc ?_ _)); exact BK105.out) hg (Kd.R_away HO_4.out (fun _ hk => hk))); have n1_ := Aside0.mk (hb); have n2_ := Aside0.mk (ho); clear BK105; clear HB; clear HO_4; have BK105 := n0_; have HB := n1_; have HO110 := n2_; clear n0_ n1_ n2_; clear ho hb hg hat; obtain ⟨Ao29, co29, eo29⟩ := Kd.R_slice HO110.out; subst eo29) | (go_at_call 154; (with_reducible refine (impl_image.calls (fun k_ => some k_ = (.slice Ao29 y108.length co29 : Value).ownBlock) (.slice Ao29 y108.length co29) y108 t111 w _ ?side1 ?side2 A26.out).mono ?_); (case side1 => repeat (first | (with_reducible first | exact HB.out | apply below_alloc | apply pw_below_drewN | apply below_drew1 | refine below_set ?_ GE105.out) | exact HB.out)); (case side2 => exact Kd.R_tight rfl HO110.out); rintro e w30 ⟨rfl, hy0, hb, hkp⟩; have n0_ := Aside0.mk (blk_kept (by (with_reducible repeat (first | refine blk_drewN ?_ _ | refine blk_drew ?_ | refine blk_alloc ?_ _)); exact BK105.out) hkp (fun hs_ => (fun e_ => (Kd.R_away HO110.out (fun _ hk => hk)) e_) hs_)); have n1_ := Aside0.mk (Kd.R_reok rfl hy0 (fun k_ e_ => HO110.out.1 k_ e_)); have n2_ := Aside0.mk (hb); clear BK105; clear HO110; clear HB; have BK105 := n0_; have HO110 := n1_; have HB := n2_; clear n0_ n1_ n2_; (try clear hb); (try clear hkp); (try clear hy0)))
                    repeat (go_quiet (first | ((with_reducible refine gate_builtin (b := .append) (xs := #[.tmp 57, .tmp 59]) rfl ?_); at_builtin; refine Kd.R_append k175 (w0 := w) w.heap.size rfl (.tmp 57) (.tmp 59) 173 175 (.agg #[(.int .u16 0), (.int .u16 0)]) 4 rfl Try.underlying173 info175 rfl (by decide) (by omega) (.slice Ao10 x4_1.length co10) x4_1 (⟨x106000_2, x106001_2⟩ : S175) [.int .u16 x106000_2, .int .u16 x106001_2] (fun k_ => k_ ≠ gb105) (fun _ => False) rfl rfl ?aP (fun _ hk => hk.elim) ?aF ?aO ?aB ?aS ?aL ?_; (case aP => exact k175_mkM _ _ _ (⟨x106000_2, x106001_2⟩ : S175)); (case aB => exact (by repeat (first | (with_reducible first | exact HB.out | apply below_alloc | apply pw_below_drewN | apply below_drew1 | refine below_set ?_ GE105.out) | exact HB.out))); (case aF => exact (fun k_ hk => Kd.freshB (g := gb105) (o := .cells #[.int .u16 x106000_2, .int .u16 x106001_2] 175 (0, 0)) (by (with_reducible repeat (first | refine blk_drewN ?_ _ | refine blk_drew ?_ | refine blk_alloc ?_ _)); exact BK105.out) k_ hk)); (case aO => exact (by (with_reducible repeat (first | apply Kd.R_alloc | apply Kd.R_drewN | apply Kd.R_drew)); exact HO_4.out)); (case aS => exact (below_size (by repeat (first | (with_reducible first | exact HB.out | apply below_alloc | apply pw_below_drewN | apply below_drew1 | refine below_set ?_ GE105.out) | exact HB.out)))); (case aL => have := LMc25.out; omega); intro v109 w28 ho hb hg hat; rw [← Ny108.out] at ho; have n0_ := Aside0.mk (blk_grown (g := gb105) (o := .cells #[.int .u16 x106000_2, .int .u16 x106001_2] 175 (0, 0)) (by (with_reducible repeat (first | refine blk_drewN ?_ _ | refine blk_drew ?_ | refine blk_alloc ?_ _)); exact BK105.out) hg (Kd.R_away HO_4.out (fun _ hk => hk))); have n1_ := Aside0.mk (hb); have n2_ := Aside0.mk (ho); clear BK105; clear HB; clear HO_4; have BK105 := n0_; have HB := n1_; have HO110 := n2_; clear n0_ n1_ n2_; clear ho hb hg hat; obtain ⟨Ao29, co29, eo29⟩ := Kd.R_slice HO110.out; subst eo29) | (go_at_call 154; (with_reducible refine (impl_image.calls (fun k_ => some k_ = (.slice Ao29 y108.length co29 : Value).ownBlock) (.slice Ao29 y108.length co29) y108 t111 w _ ?side1 ?side2 A26.out).mono ?_); (case side1 => repeat (first | (with_reducible first | exact HB.out | apply below_alloc | apply pw_below_drewN | apply below_drew1 | refine below_set ?_ GE105.out) | exact HB.out)); (case side2 => exact Kd.R_tight rfl HO110.out); rintro e w30 ⟨rfl, hy0, hb, hkp⟩; have n0_ := Aside0.mk (blk_kept (by (with_reducible repeat (first | refine blk_drewN ?_ _ | refine blk_drew ?_ | refine blk_alloc ?_ _)); exact BK105.out) hkp (fun hs_ => (fun e_ => (Kd.R_away HO110.out (fun _ hk => hk)) e_) hs_)); have n1_ := Aside0.mk (Kd.R_reok rfl hy0 (fun k_ e_ => HO110.out.1 k_ e_)); have n2_ := Aside0.mk (hb); clear BK105; clear HO110; clear HB; have BK105 := n0_; have HO110 := n1_; have HB := n2_; clear n0_ n1_ n2_; (try clear hb); (try clear hkp); (try clear hy0))); try go_wp2_with (first | ((with_reducible refine gate_builtin (b := .append) (xs := #[.tmp 57, .tmp 59]) rfl ?_); at_builtin; refine Kd.R_append k175 (w0 := w) w.heap.size rfl (.tmp 57) (.tmp 59) 173 175 (.agg #[(.int .u16 0), (.int .u16 0)]) 4 rfl Try.underlying173 info175 rfl (by decide) (by omega) (.slice Ao10 x4_1.length co10) x4_1 (⟨x106000_2, x106001_2⟩ : S175) [.int .u16 x106000_2, .int .u16 x106001_2] (fun k_ => k_ ≠ gb105) (fun _ => False) rfl rfl ?aP (fun _ hk => hk.elim) ?aF ?aO ?aB ?aS ?aL ?_; (case aP => exact k175_mkM _ _ _ (⟨x106000_2, x106001_2⟩ : S175)); (case aB => exact (by repeat (first | (with_reducible first | exact HB.out | apply below_alloc | apply pw_below_drewN | apply below_drew1 | refine below_set ?_ GE105.out) | exact HB.out))); (case aF => exact (fun k_ hk => Kd.freshB (g := gb105) (o := .cells #[.int .u16 x106000_2, .int .u16 x106001_2] 175 (0, 0)) (by (with_reducible repeat (first | refine blk_drewN ?_ _ | refine blk_drew ?_ | refine blk_alloc ?_ _)); exact BK105.out) k_ hk)); (case aO => exact (by (with_reducible repeat (first | apply Kd.R_alloc | apply Kd.R_drewN | apply Kd.R_drew)); exact HO_4.out)); (case aS => exact (below_size (by repeat (first | (with_reducible first | exact HB.out | apply below_alloc | apply pw_below_drewN | apply below_drew1 | refine below_set ?_ GE105.out) | exact HB.out)))); (case aL => have := LMc25.out; omega); intro v109 w28 ho hb hg hat; rw [← Ny108.out] at ho; have n0_ := Aside0.mk (blk_grown (g := gb105) (o := .cells #[.int .u16 x106000_2, .int .u16 x106001_2] 175 (0, 0)) (by (with_reducible repeat (first | refine blk_drewN ?_ _ | refine blk_drew ?_ | refine blk_alloc ?_ _)); exact BK105.out) hg (Kd.R_away HO_4.out (fun _ hk => hk))); have n1_ := Aside0.mk (hb); have n2_ := Aside0.mk (ho); clear BK105; clear HB; clear HO_4; have BK105 := n0_; have HB := n1_; have HO110 := n2_; clear n0_ n1_ n2_; clear ho hb hg hat; obtain ⟨Ao29, co29, eo29⟩ := Kd.R_slice HO110.out; subst eo29) | (go_at_call 154; (with_reducible refine (impl_image.calls (fun k_ => some k_ = (.slice Ao29 y108.length co29 : Value).ownBlock) (.slice Ao29 y108.length co29) y108 t111 w _ ?side1 ?side2 A26.out).mono ?_); (case side1 => repeat (first | (with_reducible first | exact HB.out | apply below_alloc | apply pw_below_drewN | apply below_drew1 | refine below_set ?_ GE105.out) | exact HB.out)); (case side2 => exact Kd.R_tight rfl HO110.out); rintro e w30 ⟨rfl, hy0, hb, hkp⟩; have n0_ := Aside0.mk (blk_kept (by (with_reducible repeat (first | refine blk_drewN ?_ _ | refine blk_drew ?_ | refine blk_alloc ?_ _)); exact BK105.out) hkp (fun hs_ => (fun e_ => (Kd.R_away HO110.out (fun _ hk => hk)) e_) hs_)); have n1_ := Aside0.mk (Kd.R_reok rfl hy0 (fun k_ e_ => HO110.out.1 k_ e_)); have n2_ := Aside0.mk (hb); clear BK105; clear HO110; clear HB; have BK105 := n0_; have HO110 := n1_; have HB := n2_; clear n0_ n1_ n2_; (try clear hb); (try clear hkp); (try clear hy0))))
                    go_roundg k2
                    case measure => have := HK1.out; have := HK2.out; omega
                    case rel => exact ⟨(t111), (wrap64 (x5_1 + 1)), (by first | rfl | (simp; done) | (simp [*]; done)), H', ⟨by have := HK1.out; have := HK2.out; omega⟩, ⟨by (with_reducible repeat (first | apply Kd.R_alloc | apply Kd.R_drewN | apply Kd.R_drew)); exact Kd.R_mono HO110.out (fun _ hk => trivial)⟩, ⟨by repeat (first | (with_reducible first | exact HB.out | apply below_alloc | apply pw_below_drewN | apply below_drew1 | refine below_set ?_ GE105.out) | exact HB.out)⟩⟩
                  · rw [if_neg c25] at H
                    exact absurd H (by simp)
        · rw [if_neg c5] at H
          exact absurd H (by simp)
      · rw [if_neg c4] at H
        have c4b0 : decide (x5_1 < 16) = false := decide_eq_false c4
        clear c4
        have H' := Aside0.mk H
        clear H
        obtain ⟨Ao31, co31, eo31⟩ := Kd.R_slice HO_4.out
        subst eo31
        go_wp2
        repeat (go_quiet (fail); try go_wp2)
        go_loopg [0, 10, 65] k1 (fun kq v0 v10 v65 w' => ∃ (x0_2 : Int) (x10_2 : Int) (x65_2 : Int), v0 = .int .u16 x0_2 ∧ v10 = .int .u16 x10_2 ∧ v65 = .int .i64 x65_2 ∧ Aside0 (impl_halfRoot.l2 kq x0_2 x10_2 x4_1 (x4_1.length : Int) x65_2 = some (r1, r2)) ∧ Aside0 (kq ≤ k1) ∧ Aside0 (Kd.R k175 175 w' w.heap.size (fun _ => True) (.slice Ao31 x4_1.length co31) x4_1) ∧ Aside0 (Below w.heap.size w w'))
        case atStart => exact ⟨(a0), (0), (0), (by first | rfl | (simp; done) | (simp [*]; done)), (by first | rfl | (simp; done) | (simp [*]; done)), (by first | rfl | (simp; done) | (simp [*]; done)), H', ⟨Nat.le_refl _⟩, ⟨by (with_reducible repeat (first | apply Kd.R_alloc | apply Kd.R_drewN | apply Kd.R_drew)); exact HO_4.out⟩, ⟨by repeat (first | (with_reducible first | exact HB.out | apply below_alloc | apply pw_below_drewN | apply below_drew1) | exact HB.out)⟩⟩
        case round =>
          clear H'
          try clear c1
          try clear p1
          try clear q1
          try clear hx1
          try clear c2
          try clear p2
          try clear c4
          try clear c4b0
          try clear c5
          try clear c5b0
          try clear c5b1
          try clear p6
          try clear c9
          try clear p10
          try clear q10
          try clear hx10
          try clear c11
          try clear c11b0
          try clear c12
          try clear c12b0
          try clear c13
          try clear c13b0
          try clear c14
          try clear c14b0
          try clear c16
          try clear c20
          try clear c23
          try clear c23b0
          try clear c23b1
          try clear c25
          try clear hcz17_0
          try clear hcz17_1
          try clear hcz18_0
          try clear hcz18_1
          try clear hcz21_0
          try clear hcz21_1
          try clear hcz22_0
          try clear hcz22_1
          try clear hcz24_0
          try clear hcz24_1
          try clear hcz27_0
          try clear hcz27_1
          try clear hcz9_0
          try clear hcz9_1
          try clear hfz17_0
          try clear hfz17_1
          try clear hfz18_0
          try clear hfz18_1
          try clear hfz21_0
          try clear hfz21_1
          try clear hfz22_0
          try clear hfz22_1
          try clear hfz24_0
          try clear hfz24_1
          try clear hfz27_0
          try clear hfz27_1
          try clear hfz9_0
          try clear hfz9_1
          try clear hx106_0
          try clear hx106_1
          try clear p106
          try clear p2
          try clear q106
          obtain ⟨x0_2, x10_2, x65_2, rfl, rfl, rfl, HA, HK2, HO_63, HB⟩ := hrel
          cases gk with
          | zero => exact absurd HA.out (by simp [impl_halfRoot.l2])
          | succ k2 =>
            have H := HA.out
            clear HA
            simp only [impl_halfRoot.l2] at H
            by_cases c32 : x65_2 < (x4_1.length : Int)
            · rw [if_pos c32] at H
              have c32b0 : decide (x65_2 < (x4_1.length : Int)) = true := decide_eq_true c32
              clear c32
              by_cases c33 : 0 ≤ x65_2
              · rw [if_pos c33] at H
                have c33b0 : decide (0 ≤ x65_2) = true := decide_eq_true c33
                clear c33
                by_cases c34 : x65_2 < (x4_1.length : Int)
                · rw [if_pos c34] at H
                  have c34b0 : decide (x65_2 < (x4_1.length : Int)) = true := decide_eq_true c34
                  clear c34
                  by_cases c35 : (Go.bits .xor .u16 x0_2 ((rd_T175 x4_1 x65_2).f0)) < x0_2
                  · rw [if_pos c35] at H
                    have c35b0 : decide ((Go.bits .xor .u16 x0_2 ((rd_T175 x4_1 x65_2).f0)) < x0_2) = true := decide_eq_true c35
                    clear c35
                    have H' := Aside0.mk H
                    clear H
                    have p112 : 0 ≤ (x65_2 : Int) := of_decide_eq_true (by first | (with_reducible assumption) | assumption)
                    have q112 : x65_2 < (x4_1.length : Int) := of_decide_eq_true (by first | (with_reducible assumption) | assumption)
                    obtain ⟨ad112, e112, hx112_0, hx112_1⟩ := at_T175 (Kd.R_reads' HO_63.out).2.2 x65_2 p112 q112
                    cases e112
                    replace p112 := eq_true p112
                    replace q112 := eq_true q112
                    go_wp2_with (first | ((with_reducible refine gate_dst (N := 12) rfl ?_); refine box_event ?hg (N := 12) ?hd (cs := #[.int .u16 0, .int .u16 0]) (t := 175) ?hr ?_; (case hd => rfl); (case hg => rfl); (case hr => first | (go_simp; done) | (go_simp; rfl)); intro gb113 hg w36 hbox hb; have n0_ := Aside0.mk (Kd.R_below (Kd.R_elderB (by (with_reducible repeat (first | apply Kd.R_alloc | apply Kd.R_drewN | apply Kd.R_drew)); exact HO_63.out) gb113 (Nat.le_of_eq hg.symm)) hb); have n1_ := Aside0.mk (below_step (by repeat (first | (with_reducible first | exact HB.out | apply below_alloc | apply pw_below_drewN | apply below_drew1) | exact HB.out)) hb); have n2_ := Aside0.mk (hbox); have n3_ := Aside0.mk ((by rw [hg]; exact (below_size (by repeat (first | (with_reducible first | exact HB.out | apply below_alloc | apply pw_below_drewN | apply below_drew1) | exact HB.out))) : w.heap.size ≤ gb113)); have n4_ := Aside0.mk ((by rw [hg]; exact (below_size (by repeat (first | (with_reducible first | exact HB.out | apply below_alloc | apply pw_below_drewN | apply below_drew1) | exact HB.out))) : w.heap.size ≤ gb113)); clear HO_63; clear HB; have HO_63 := n0_; have HB := n1_; have BK113 := n2_; have GW113 := n3_; have GE113 := n4_; clear n0_ n1_ n2_ n3_ n4_; clear hb hbox hg; have hcz37_0 : w36.cell? ⟨gb113, 0, none⟩ = some (.int .u16 0) := (blk_cell BK113.out 0).trans rfl; have hcz37_1 : w36.cell? ⟨gb113, 1, none⟩ = some (.int .u16 0) := (blk_cell BK113.out 1).trans rfl; have hfz37_0 := blk_frozen BK113.out 0; have hfz37_1 := blk_frozen BK113.out 1))
                    repeat (go_quiet (first | ((with_reducible refine gate_dst (N := 12) rfl ?_); refine box_event ?hg (N := 12) ?hd (cs := #[.int .u16 0, .int .u16 0]) (t := 175) ?hr ?_; (case hd => rfl); (case hg => rfl); (case hr => first | (go_simp; done) | (go_simp; rfl)); intro gb113 hg w36 hbox hb; have n0_ := Aside0.mk (Kd.R_below (Kd.R_elderB (by (with_reducible repeat (first | apply Kd.R_alloc | apply Kd.R_drewN | apply Kd.R_drew)); exact HO_63.out) gb113 (Nat.le_of_eq hg.symm)) hb); have n1_ := Aside0.mk (below_step (by repeat (first | (with_reducible first | exact HB.out | apply below_alloc | apply pw_below_drewN | apply below_drew1) | exact HB.out)) hb); have n2_ := Aside0.mk (hbox); have n3_ := Aside0.mk ((by rw [hg]; exact (below_size (by repeat (first | (with_reducible first | exact HB.out | apply below_alloc | apply pw_below_drewN | apply below_drew1) | exact HB.out))) : w.heap.size ≤ gb113)); have n4_ := Aside0.mk ((by rw [hg]; exact (below_size (by repeat (first | (with_reducible first | exact HB.out | apply below_alloc | apply pw_below_drewN | apply below_drew1) | exact HB.out))) : w.heap.size ≤ gb113)); clear HO_63; clear HB; have HO_63 := n0_; have HB := n1_; have BK113 := n2_; have GW113 := n3_; have GE113 := n4_; clear n0_ n1_ n2_ n3_ n4_; clear hb hbox hg; have hcz37_0 : w36.cell? ⟨gb113, 0, none⟩ = some (.int .u16 0) := (blk_cell BK113.out 0).trans rfl; have hcz37_1 : w36.cell? ⟨gb113, 1, none⟩ = some (.int .u16 0) := (blk_cell BK113.out 1).trans rfl; have hfz37_0 := blk_frozen BK113.out 0; have hfz37_1 := blk_frozen BK113.out 1)); try go_wp2_with (first | ((with_reducible refine gate_dst (N := 12) rfl ?_); refine box_event ?hg (N := 12) ?hd (cs := #[.int .u16 0, .int .u16 0]) (t := 175) ?hr ?_; (case hd => rfl); (case hg => rfl); (case hr => first | (go_simp; done) | (go_simp; rfl)); intro gb113 hg w36 hbox hb; have n0_ := Aside0.mk (Kd.R_below (Kd.R_elderB (by (with_reducible repeat (first | apply Kd.R_alloc | apply Kd.R_drewN | apply Kd.R_drew)); exact HO_63.out) gb113 (Nat.le_of_eq hg.symm)) hb); have n1_ := Aside0.mk (below_step (by repeat (first | (with_reducible first | exact HB.out | apply below_alloc | apply pw_below_drewN | apply below_drew1) | exact HB.out)) hb); have n2_ := Aside0.mk (hbox); have n3_ := Aside0.mk ((by rw [hg]; exact (below_size (by repeat (first | (with_reducible first | exact HB.out | apply below_alloc | apply pw_below_drewN | apply below_drew1) | exact HB.out))) : w.heap.size ≤ gb113)); have n4_ := Aside0.mk ((by rw [hg]; exact (below_size (by repeat (first | (with_reducible first | exact HB.out | apply below_alloc | apply pw_below_drewN | apply below_drew1) | exact HB.out))) : w.heap.size ≤ gb113)); clear HO_63; clear HB; have HO_63 := n0_; have HB := n1_; have BK113 := n2_; have GW113 := n3_; have GE113 := n4_; clear n0_ n1_ n2_ n3_ n4_; clear hb hbox hg; have hcz37_0 : w36.cell? ⟨gb113, 0, none⟩ = some (.int .u16 0) := (blk_cell BK113.out 0).trans rfl; have hcz37_1 : w36.cell? ⟨gb113, 1, none⟩ = some (.int .u16 0) := (blk_cell BK113.out 1).trans rfl; have hfz37_0 := blk_frozen BK113.out 0; have hfz37_1 := blk_frozen BK113.out 1)))
                    go_roundg k2
                    case measure => have := HK1.out; have := HK2.out; omega
                    case rel => exact ⟨(Go.bits .xor .u16 x0_2 ((rd_T175 x4_1 x65_2).f0)), (Go.bits .xor .u16 x10_2 ((rd_T175 x4_1 x65_2).f1)), (wrap64 (x65_2 + 1)), (by first | rfl | (simp; done) | (simp [*]; done)), (by first | rfl | (simp; done) | (simp [*]; done)), (by first | rfl | (simp; done) | (simp [*]; done)), H', ⟨by have := HK1.out; have := HK2.out; omega⟩, ⟨by (with_reducible repeat (first | apply Kd.R_alloc | apply Kd.R_drewN | apply Kd.R_drew)); exact Kd.R_mono (Kd.R_far (p := ⟨gb113, 1, none⟩) (Kd.R_far (p := ⟨gb113, 0, none⟩) (Kd.R_mono HO_63.out (fun k_ hk => (⟨hk, hk.2⟩ : _ ∧ k_ ≠ gb113))) (fun _ hk => hk.2) (.int .u16 ((rd_T175 x4_1 x65_2).f0))) (fun _ hk => hk.2) (.int .u16 ((rd_T175 x4_1 x65_2).f1))) (fun _ hk => trivial)⟩, ⟨by repeat (first | (with_reducible first | exact HB.out | apply below_alloc | apply pw_below_drewN | apply below_drew1 | refine below_set ?_ GE113.out) | exact HB.out)⟩⟩
                  · rw [if_neg c35] at H
                    have c35b0 : decide ((Go.bits .xor .u16 x0_2 ((rd_T175 x4_1 x65_2).f0)) < x0_2) = false := decide_eq_false c35
                    clear c35
                    have H' := Aside0.mk H
                    clear H
                    have p112 : 0 ≤ (x65_2 : Int) := of_decide_eq_true (by first | (with_reducible assumption) | assumption)
                    have q112 : x65_2 < (x4_1.length : Int) := of_decide_eq_true (by first | (with_reducible assumption) | assumption)
                    obtain ⟨ad112, e112, hx112_0, hx112_1⟩ := at_T175 (Kd.R_reads' HO_63.out).2.2 x65_2 p112 q112
                    cases e112
                    replace p112 := eq_true p112
                    replace q112 := eq_true q112
                    go_wp2_with (first | ((with_reducible refine gate_dst (N := 12) rfl ?_); refine box_event ?hg (N := 12) ?hd (cs := #[.int .u16 0, .int .u16 0]) (t := 175) ?hr ?_; (case hd => rfl); (case hg => rfl); (case hr => first | (go_simp; done) | (go_simp; rfl)); intro gb113 hg w38 hbox hb; have n0_ := Aside0.mk (Kd.R_below (Kd.R_elderB (by (with_reducible repeat (first | apply Kd.R_alloc | apply Kd.R_drewN | apply Kd.R_drew)); exact HO_63.out) gb113 (Nat.le_of_eq hg.symm)) hb); have n1_ := Aside0.mk (below_step (by repeat (first | (with_reducible first | exact HB.out | apply below_alloc | apply pw_below_drewN | apply below_drew1) | exact HB.out)) hb); have n2_ := Aside0.mk (hbox); have n3_ := Aside0.mk ((by rw [hg]; exact (below_size (by repeat (first | (with_reducible first | exact HB.out | apply below_alloc | apply pw_below_drewN | apply below_drew1) | exact HB.out))) : w.heap.size ≤ gb113)); have n4_ := Aside0.mk ((by rw [hg]; exact (below_size (by repeat (first | (with_reducible first | exact HB.out | apply below_alloc | apply pw_below_drewN | apply below_drew1) | exact HB.out))) : w.heap.size ≤ gb113)); clear HO_63; clear HB; have HO_63 := n0_; have HB := n1_; have BK113 := n2_; have GW113 := n3_; have GE113 := n4_; clear n0_ n1_ n2_ n3_ n4_; clear hb hbox hg; have hcz39_0 : w38.cell? ⟨gb113, 0, none⟩ = some (.int .u16 0) := (blk_cell BK113.out 0).trans rfl; have hcz39_1 : w38.cell? ⟨gb113, 1, none⟩ = some (.int .u16 0) := (blk_cell BK113.out 1).trans rfl; have hfz39_0 := blk_frozen BK113.out 0; have hfz39_1 := blk_frozen BK113.out 1))
                    repeat (go_quiet (first | ((with_reducible refine gate_dst (N := 12) rfl ?_); refine box_event ?hg (N := 12) ?hd (cs := #[.int .u16 0, .int .u16 0]) (t := 175) ?hr ?_; (case hd => rfl); (case hg => rfl); (case hr => first | (go_simp; done) | (go_simp; rfl)); intro gb113 hg w38 hbox hb; have n0_ := Aside0.mk (Kd.R_below (Kd.R_elderB (by (with_reducible repeat (first | apply Kd.R_alloc | apply Kd.R_drewN | apply Kd.R_drew)); exact HO_63.out) gb113 (Nat.le_of_eq hg.symm)) hb); have n1_ := Aside0.mk (below_step (by repeat (first | (with_reducible first | exact HB.out | apply below_alloc | apply pw_below_drewN | apply below_drew1) | exact HB.out)) hb); have n2_ := Aside0.mk (hbox); have n3_ := Aside0.mk ((by rw [hg]; exact (below_size (by repeat (first | (with_reducible first | exact HB.out | apply below_alloc | apply pw_below_drewN | apply below_drew1) | exact HB.out))) : w.heap.size ≤ gb113)); have n4_ := Aside0.mk ((by rw [hg]; exact (below_size (by repeat (first | (with_reducible first | exact HB.out | apply below_alloc | apply pw_below_drewN | apply below_drew1) | exact HB.out))) : w.heap.size ≤ gb113)); clear HO_63; clear HB; have HO_63 := n0_; have HB := n1_; have BK113 := n2_; have GW113 := n3_; have GE113 := n4_; clear n0_ n1_ n2_ n3_ n4_; clear hb hbox hg; have hcz39_0 : w38.cell? ⟨gb113, 0, none⟩ = some (.int .u16 0) := (blk_cell BK113.out 0).trans rfl; have hcz39_1 : w38.cell? ⟨gb113, 1, none⟩ = some (.int .u16 0) := (blk_cell BK113.out 1).trans rfl; have hfz39_0 := blk_frozen BK113.out 0; have hfz39_1 := blk_frozen BK113.out 1)); try go_wp2_with (first | ((with_reducible refine gate_dst (N := 12) rfl ?_); refine box_event ?hg (N := 12) ?hd (cs := #[.int .u16 0, .int .u16 0]) (t := 175) ?hr ?_; (case hd => rfl); (case hg => rfl); (case hr => first | (go_simp; done) | (go_simp; rfl)); intro gb113 hg w38 hbox hb; have n0_ := Aside0.mk (Kd.R_below (Kd.R_elderB (by (with_reducible repeat (first | apply Kd.R_alloc | apply Kd.R_drewN | apply Kd.R_drew)); exact HO_63.out) gb113 (Nat.le_of_eq hg.symm)) hb); have n1_ := Aside0.mk (below_step (by repeat (first | (with_reducible first | exact HB.out | apply below_alloc | apply pw_below_drewN | apply below_drew1) | exact HB.out)) hb); have n2_ := Aside0.mk (hbox); have n3_ := Aside0.mk ((by rw [hg]; exact (below_size (by repeat (first | (with_reducible first | exact HB.out | apply below_alloc | apply pw_below_drewN | apply below_drew1) | exact HB.out))) : w.heap.size ≤ gb113)); have n4_ := Aside0.mk ((by rw [hg]; exact (below_size (by repeat (first | (with_reducible first | exact HB.out | apply below_alloc | apply pw_below_drewN | apply below_drew1) | exact HB.out))) : w.heap.size ≤ gb113)); clear HO_63; clear HB; have HO_63 := n0_; have HB := n1_; have BK113 := n2_; have GW113 := n3_; have GE113 := n4_; clear n0_ n1_ n2_ n3_ n4_; clear hb hbox hg; have hcz39_0 : w38.cell? ⟨gb113, 0, none⟩ = some (.int .u16 0) := (blk_cell BK113.out 0).trans rfl; have hcz39_1 : w38.cell? ⟨gb113, 1, none⟩ = some (.int .u16 0) := (blk_cell BK113.out 1).trans rfl; have hfz39_0 := blk_frozen BK113.out 0; have hfz39_1 := blk_frozen BK113.out 1)))
                    go_roundg k2
                    case measure => have := HK1.out; have := HK2.out; omega
                    case rel => exact ⟨(x0_2), (x10_2), (wrap64 (x65_2 + 1)), (by first | rfl | (simp; done) | (simp [*]; done)), (by first | rfl | (simp; done) | (simp [*]; done)), (by first | rfl | (simp; done) | (simp [*]; done)), H', ⟨by have := HK1.out; have := HK2.out; omega⟩, ⟨by (with_reducible repeat (first | apply Kd.R_alloc | apply Kd.R_drewN | apply Kd.R_drew)); exact Kd.R_mono (Kd.R_far (p := ⟨gb113, 1, none⟩) (Kd.R_far (p := ⟨gb113, 0, none⟩) (Kd.R_mono HO_63.out (fun k_ hk => (⟨hk, hk.2⟩ : _ ∧ k_ ≠ gb113))) (fun _ hk => hk.2) (.int .u16 ((rd_T175 x4_1 x65_2).f0))) (fun _ hk => hk.2) (.int .u16 ((rd_T175 x4_1 x65_2).f1))) (fun _ hk => trivial)⟩, ⟨by repeat (first | (with_reducible first | exact HB.out | apply below_alloc | apply pw_below_drewN | apply below_drew1 | refine below_set ?_ GE113.out) | exact HB.out)⟩⟩
                · rw [if_neg c34] at H
                  exact absurd H (by simp)
              · rw [if_neg c33] at H
                exact absurd H (by simp)
            · rw [if_neg c32] at H
              have c32b0 : decide (x65_2 < (x4_1.length : Int)) = false := decide_eq_false c32
              clear c32
              simp only [Option.some.injEq, Prod.mk.injEq] at H
              obtain ⟨rfl, rfl⟩ := H
              go_wp2
              repeat (go_quiet (fail); try go_wp2)
              go_ret2
              exact ⟨by first | rfl | (simp [errW_none, errW_some] <;> rfl) | (simp [*, errW_none, errW_some] <;> rfl), by repeat (first | (with_reducible first | exact HB.out | apply below_alloc | apply pw_below_drewN | apply below_drew1) | exact HB.out)⟩
end Go.Proofs.Ytadfobooofkelaa.X

-- Laid by wip/xprint.py of this session (the kit's print program, with some contracts given by hand). Not trusted: Lean checks it.
namespace Go.Proofs.Ytadfobooofkelaa.X
open Go.RowKit Go.Proofs.YtadfobooofkelaaW.PrintWords Go.Proofs.YtadfobooofkelaaW.PrintLast Go.Proofs.YtadfobooofkelaaW.PrintMore
attribute [local go_sem] max2_int min2_int max_two min_two max_three min_three max_four min_four
set_option linter.unusedVariables false
set_option linter.unusedSimpArgs false
def impl_power.l0 : Nat → Int → Int → Int → Option (Int)
  | 0, _, _, _ => none
  | k + 1, x0, x1, x5 => if x1 > 0 then (if (Go.bits .and .i64 x1 1) = 1 then ((impl_times.f k x5 x0).bind fun t101 => ((impl_times.f k x0 x0).bind fun t102 => (impl_power.l0 k t102 (x1 / 2) t101))) else ((impl_times.f k x0 x0).bind fun t103 => (impl_power.l0 k t103 (x1 / 2) x5))) else (some x5)
def impl_power.f (k : Nat) (a0 : Int) (a1 : Int) : Option (Int) := impl_power.l0 k a0 a1 1
set_option maxHeartbeats 8000000 in
set_option maxRecDepth 100000 in
theorem impl_power.calls (k : Nat) (a0 : Int) (a1 : Int) (r : Int) (w : World) (h : impl_power.f k a0 a1 = some r) :
    Calls Try.prog 153 #[.int .u16 a0, .int .i64 a1] w fun e w' => e = .returned (.int .u16 r) ∧ Drawn0 w w' := by
  have H : (impl_power.l0 k a0 a1 1) = some r := h
  clear h
  have H' := Aside0.mk H
  clear H
  go_enter Try.func153, Try.ntmps153
  go_wp2
  go_loopg [0, 1, 5] k (fun kq v0 v1 v5 w' => ∃ (x0_1 : Int) (x1_1 : Int) (x5_1 : Int), v0 = .int .u16 x0_1 ∧ v1 = .int .i64 x1_1 ∧ v5 = .int .u16 x5_1 ∧ Aside0 (impl_power.l0 kq x0_1 x1_1 x5_1 = some r) ∧ Aside0 (kq ≤ k) ∧ Drawn0 w w')
  case atStart => exact ⟨(a0), (a1), (1), (by first | rfl | (simp; done) | (simp [*]; done)), (by first | rfl | (simp; done) | (simp [*]; done)), (by first | rfl | (simp; done) | (simp [*]; done)), H', ⟨Nat.le_refl _⟩, by repeat (first | exact Drawn0.refl _ | apply Drawn0.step)⟩
  case round =>
    clear H'
    try clear c1
    try clear p2
    obtain ⟨x0_1, x1_1, x5_1, rfl, rfl, rfl, HA, HK1, ⟨m1, rfl⟩⟩ := hrel
    cases gk with
    | zero => exact absurd HA.out (by simp [impl_power.l0])
    | succ k1 =>
      have H := HA.out
      clear HA
      simp only [impl_power.l0] at H
      by_cases c3 : x1_1 > 0
      · rw [if_pos c3] at H
        have c3b0 : decide (0 < x1_1) = true := decide_eq_true c3
        clear c3
        by_cases c4 : (Go.bits .and .i64 x1_1 1) = 1
        · rw [if_pos c4] at H
          have c4b0 : ((Go.bits .and .i64 x1_1 1) == 1) = true := beq_iff_eq.mpr c4
          have c4b1 : ((Go.bits .and .i64 x1_1 1) != 1) = false := bne_eq_false_iff_eq.mpr c4
          clear c4
          replace H := Option.bind_eq_some_iff.mp H
          obtain ⟨t101, A50, H⟩ := H
          replace H : ((impl_times.f k1 x0_1 x0_1).bind fun t102 => (impl_power.l0 k1 t102 (x1_1 / 2) t101)) = some r := H
          have A5 := Aside0.mk A50
          clear A50
          replace H := Option.bind_eq_some_iff.mp H
          obtain ⟨t102, A60, H⟩ := H
          replace H : (impl_power.l0 k1 t102 (x1_1 / 2) t101) = some r := H
          have A6 := Aside0.mk A60
          clear A60
          have H' := Aside0.mk H
          clear H
          go_wp2_with (first | ((with_reducible refine gate_callee (f := 90) rfl ?_); refine goesL_ (some 15) rfl rfl Try.func90 (by kernel_rfl) rfl #[.int .u16 x5_1, .int .u16 x0_1] rfl (by (try simp only [List.map_toArray, List.map_cons, List.map_nil]); first | done | rfl | (simp only [List.length_drop, List.length_take]; rfl)) ?_; (with_reducible refine (impl_times.calls k1 x5_1 x0_1 t101 _ A5.out).mono ?_); rintro e w' ⟨rfl, ⟨nd, rfl⟩⟩; refine ⟨_, rfl, ?_⟩) | ((with_reducible refine gate_callee (f := 90) rfl ?_); refine goesL_ (some 18) rfl rfl Try.func90 (by kernel_rfl) rfl #[.int .u16 x0_1, .int .u16 x0_1] rfl (by (try simp only [List.map_toArray, List.map_cons, List.map_nil]); first | done | rfl | (simp only [List.length_drop, List.length_take]; rfl)) ?_; (with_reducible refine (impl_times.calls k1 x0_1 x0_1 t102 _ A6.out).mono ?_); rintro e w' ⟨rfl, ⟨nd, rfl⟩⟩; refine ⟨_, rfl, ?_⟩))
          go_roundg k1
          case measure => have := HK1.out; omega
          case rel => exact ⟨(t102), (x1_1 / 2), (t101), (by first | rfl | (simp; done) | (simp [*]; done)), (by first | rfl | (simp; done) | (simp [*]; done)), (by first | rfl | (simp; done) | (simp [*]; done)), H', ⟨by have := HK1.out; omega⟩, by repeat (first | exact Drawn0.refl _ | apply Drawn0.step)⟩
        · rw [if_neg c4] at H
          have c4b0 : ((Go.bits .and .i64 x1_1 1) == 1) = false := beq_eq_false_iff_ne.mpr c4
          have c4b1 : ((Go.bits .and .i64 x1_1 1) != 1) = true := bne_iff_ne.mpr c4
          replace H := Option.bind_eq_some_iff.mp H
          obtain ⟨t103, A70, H⟩ := H
          replace H : (impl_power.l0 k1 t103 (x1_1 / 2) x5_1) = some r := H
          have A7 := Aside0.mk A70
          clear A70
          have H' := Aside0.mk H
          clear H
          go_wp2_with (first | ((with_reducible refine gate_callee (f := 90) rfl ?_); refine goesL_ (some 18) rfl rfl Try.func90 (by kernel_rfl) rfl #[.int .u16 x0_1, .int .u16 x0_1] rfl (by (try simp only [List.map_toArray, List.map_cons, List.map_nil]); first | done | rfl | (simp only [List.length_drop, List.length_take]; rfl)) ?_; (with_reducible refine (impl_times.calls k1 x0_1 x0_1 t103 _ A7.out).mono ?_); rintro e w' ⟨rfl, ⟨nd, rfl⟩⟩; refine ⟨_, rfl, ?_⟩))
          go_roundg k1
          case measure => have := HK1.out; omega
          case rel => exact ⟨(t103), (x1_1 / 2), (x5_1), (by first | rfl | (simp; done) | (simp [*]; done)), (by first | rfl | (simp; done) | (simp [*]; done)), (by first | rfl | (simp; done) | (simp [*]; done)), H', ⟨by have := HK1.out; omega⟩, by repeat (first | exact Drawn0.refl _ | apply Drawn0.step)⟩
      · rw [if_neg c3] at H
        have c3b0 : decide (0 < x1_1) = false := decide_eq_false c3
        clear c3
        obtain rfl := Option.some.inj H
        go_wp2
        go_ret
        exact ⟨by first | rfl | (simp; done) | (simp [*]; done), by repeat (first | exact Drawn0.refl _ | apply Drawn0.step)⟩
end Go.Proofs.Ytadfobooofkelaa.X

-- Laid by wip/xprint.py of this session (the kit's print program, with some contracts given by hand). Not trusted: Lean checks it.
namespace Go.Proofs.Ytadfobooofkelaa.X
open Go.RowKit Go.Proofs.YtadfobooofkelaaW.PrintWords Go.Proofs.YtadfobooofkelaaW.PrintLast Go.Proofs.YtadfobooofkelaaW.PrintMore
attribute [local go_sem] max2_int min2_int max_two min_two max_three min_three max_four min_four
set_option linter.unusedVariables false
set_option linter.unusedSimpArgs false
def impl_inverse.f (k : Nat) (a0 : Int) : Option (Int) := if a0 = 0 then (some 0) else ((impl_power.f k a0 65534).bind fun t101 => (some t101))
set_option maxHeartbeats 8000000 in
set_option maxRecDepth 100000 in
theorem impl_inverse.calls (k : Nat) (a0 : Int) (r : Int) (w : World) (h : impl_inverse.f k a0 = some r) :
    Calls Try.prog 92 #[.int .u16 a0] w fun e w' => e = .returned (.int .u16 r) ∧ Drawn0 w w' := by
  have H : (if a0 = 0 then (some 0) else ((impl_power.f k a0 65534).bind fun t101 => (some t101))) = some r := h
  clear h
  by_cases c2 : a0 = 0
  · rw [if_pos c2] at H
    have c2b0 : (a0 == 0) = true := beq_iff_eq.mpr c2
    have c2b1 : (a0 != 0) = false := bne_eq_false_iff_eq.mpr c2
    clear c2
    obtain rfl := Option.some.inj H
    go_enter Try.func92, Try.ntmps92
    go_wp2
    go_ret
    exact ⟨by first | rfl | (simp; done) | (simp [*]; done), by repeat (first | exact Drawn0.refl _ | apply Drawn0.step)⟩
  · rw [if_neg c2] at H
    have c2b0 : (a0 == 0) = false := beq_eq_false_iff_ne.mpr c2
    have c2b1 : (a0 != 0) = true := bne_iff_ne.mpr c2
    replace H := Option.bind_eq_some_iff.mp H
    obtain ⟨t101, A30, H⟩ := H
    replace H : (some t101) = some r := H
    have A3 := Aside0.mk A30
    clear A30
    obtain rfl := Option.some.inj H
    go_enter Try.func92, Try.ntmps92
    go_wp2_with (first | ((with_reducible refine gate_callee (f := 153) rfl ?_); refine goesL_ (some 6) rfl rfl Try.func153 (by kernel_rfl) rfl #[.int .u16 a0, .int .i64 65534] rfl (by (try simp only [List.map_toArray, List.map_cons, List.map_nil]); first | done | rfl | (simp only [List.length_drop, List.length_take]; rfl)) ?_; (with_reducible refine (impl_power.calls k a0 65534 t101 _ A3.out).mono ?_); rintro e w' ⟨rfl, ⟨nd, rfl⟩⟩; refine ⟨_, rfl, ?_⟩))
    go_ret
    exact ⟨by first | rfl | (simp; done) | (simp [*]; done), by repeat (first | exact Drawn0.refl _ | apply Drawn0.step)⟩
end Go.Proofs.Ytadfobooofkelaa.X

-- Laid by wip/xprint.py of this session (the kit's print program, with some contracts given by hand). Not trusted: Lean checks it.
namespace Go.Proofs.Ytadfobooofkelaa.X
open Go.RowKit Go.Proofs.YtadfobooofkelaaW.PrintWords Go.Proofs.YtadfobooofkelaaW.PrintLast Go.Proofs.YtadfobooofkelaaW.PrintMore
attribute [local go_sem] max2_int min2_int max_two min_two max_three min_three max_four min_four
set_option linter.unusedVariables false
set_option linter.unusedSimpArgs false
def impl_root.l0 : Nat → Int → Int → Option (Int)
  | 0, _, _ => none
  | k + 1, x0, x3 => if x3 < 15 then ((impl_times.f k x0 x0).bind fun t101 => (impl_root.l0 k t101 (wrap64 (x3 + 1)))) else (some x0)
def impl_root.f (k : Nat) (a0 : Int) : Option (Int) := impl_root.l0 k a0 0
set_option maxHeartbeats 8000000 in
set_option maxRecDepth 100000 in
theorem impl_root.calls (k : Nat) (a0 : Int) (r : Int) (w : World) (h : impl_root.f k a0 = some r) :
    Calls Try.prog 130 #[.int .u16 a0] w fun e w' => e = .returned (.int .u16 r) ∧ Drawn0 w w' := by
  have H : (impl_root.l0 k a0 0) = some r := h
  clear h
  have H' := Aside0.mk H
  clear H
  go_enter Try.func130, Try.ntmps130
  go_wp2
  go_loopg [0, 3] k (fun kq v0 v3 w' => ∃ (x0_1 : Int) (x3_1 : Int), v0 = .int .u16 x0_1 ∧ v3 = .int .i64 x3_1 ∧ Aside0 (impl_root.l0 kq x0_1 x3_1 = some r) ∧ Aside0 (kq ≤ k) ∧ Drawn0 w w')
  case atStart => exact ⟨(a0), (0), (by first | rfl | (simp; done) | (simp [*]; done)), (by first | rfl | (simp; done) | (simp [*]; done)), H', ⟨Nat.le_refl _⟩, by repeat (first | exact Drawn0.refl _ | apply Drawn0.step)⟩
  case round =>
    clear H'
    try clear c1
    obtain ⟨x0_1, x3_1, rfl, rfl, HA, HK1, ⟨m1, rfl⟩⟩ := hrel
    cases gk with
    | zero => exact absurd HA.out (by simp [impl_root.l0])
    | succ k1 =>
      have H := HA.out
      clear HA
      simp only [impl_root.l0] at H
      by_cases c2 : x3_1 < 15
      · rw [if_pos c2] at H
        have c2b0 : decide (x3_1 < 15) = true := decide_eq_true c2
        clear c2
        replace H := Option.bind_eq_some_iff.mp H
        obtain ⟨t101, A30, H⟩ := H
        replace H : (impl_root.l0 k1 t101 (wrap64 (x3_1 + 1))) = some r := H
        have A3 := Aside0.mk A30
        clear A30
        have H' := Aside0.mk H
        clear H
        go_wp2_with (first | ((with_reducible refine gate_callee (f := 90) rfl ?_); refine goesL_ (some 7) rfl rfl Try.func90 (by kernel_rfl) rfl #[.int .u16 x0_1, .int .u16 x0_1] rfl (by (try simp only [List.map_toArray, List.map_cons, List.map_nil]); first | done | rfl | (simp only [List.length_drop, List.length_take]; rfl)) ?_; (with_reducible refine (impl_times.calls k1 x0_1 x0_1 t101 _ A3.out).mono ?_); rintro e w' ⟨rfl, ⟨nd, rfl⟩⟩; refine ⟨_, rfl, ?_⟩))
        go_roundg k1
        case measure => have := HK1.out; omega
        case rel => exact ⟨(t101), (wrap64 (x3_1 + 1)), (by first | rfl | (simp; done) | (simp [*]; done)), (by first | rfl | (simp; done) | (simp [*]; done)), H', ⟨by have := HK1.out; omega⟩, by repeat (first | exact Drawn0.refl _ | apply Drawn0.step)⟩
      · rw [if_neg c2] at H
        have c2b0 : decide (x3_1 < 15) = false := decide_eq_false c2
        clear c2
        obtain rfl := Option.some.inj H
        go_wp2
        go_ret
        exact ⟨by first | rfl | (simp; done) | (simp [*]; done), by repeat (first | exact Drawn0.refl _ | apply Drawn0.step)⟩
end Go.Proofs.Ytadfobooofkelaa.X

-- Laid by wip/xprint.py of this session (the kit's print program, with some contracts given by hand). Not trusted: Lean checks it.
namespace Go.Proofs.Ytadfobooofkelaa.X
open Go.RowKit Go.Proofs.YtadfobooofkelaaW.PrintWords Go.Proofs.YtadfobooofkelaaW.PrintLast Go.Proofs.YtadfobooofkelaaW.PrintMore
attribute [local go_sem] max2_int min2_int max_two min_two max_three min_three max_four min_four
set_option linter.unusedVariables false
set_option linter.unusedSimpArgs false
-- IMPORT Derived.Test.YtadfobooofkelaaHsort
def bits_Len.f (a0 : Int) : Option Int := bitsLenF a0
theorem bits_Len.calls (a0 r : Int) (w : World) (h : bits_Len.f a0 = some r) : Calls Try.prog 172 #[.int .u64 a0] w fun e w' => e = .returned (.int .i64 r) ∧ w' = w := hand_bitsLen a0 r w h
end Go.Proofs.Ytadfobooofkelaa.X

-- Laid by wip/xprint.py of this session (the kit's print program, with some contracts given by hand). Not trusted: Lean checks it.
namespace Go.Proofs.Ytadfobooofkelaa.X
open Go.RowKit Go.Proofs.YtadfobooofkelaaW.PrintWords Go.Proofs.YtadfobooofkelaaW.PrintLast Go.Proofs.YtadfobooofkelaaW.PrintMore
attribute [local go_sem] max2_int min2_int max_two min_two max_three min_three max_four min_four
set_option linter.unusedVariables false
set_option linter.unusedSimpArgs false
def impl_Nimber_203.f (a0 : Int) : Option (Bool) := some (a0 != a0)
set_option maxHeartbeats 8000000 in
set_option maxRecDepth 100000 in
theorem impl_Nimber_203.calls (a0 : Int) (r : Bool) (w : World) (h : impl_Nimber_203.f a0 = some r) :
    Calls Try.prog 203 #[.int .u16 a0] w fun e w' => e = .returned (.bool r) ∧ Drawn0 w w' := by
  have H : (some (a0 != a0)) = some r := h
  clear h
  obtain rfl := Option.some.inj H
  go_enter Try.func203, Try.ntmps203
  go_wp2
  go_ret
  exact ⟨by first | rfl | (simp; done) | (simp [*]; done), by repeat (first | exact Drawn0.refl _ | apply Drawn0.step)⟩
end Go.Proofs.Ytadfobooofkelaa.X

-- Laid by wip/xprint.py of this session (the kit's print program, with some contracts given by hand). Not trusted: Lean checks it.
namespace Go.Proofs.Ytadfobooofkelaa.X
open Go.RowKit Go.Proofs.YtadfobooofkelaaW.PrintWords Go.Proofs.YtadfobooofkelaaW.PrintLast Go.Proofs.YtadfobooofkelaaW.PrintMore
attribute [local go_sem] max2_int min2_int max_two min_two max_three min_three max_four min_four
set_option linter.unusedVariables false
set_option linter.unusedSimpArgs false
def impl_Nimber_185.f (a0 : Int) (a1 : Int) : Option (Bool) := (impl_Nimber_203.f a0).bind fun t101 => (if t101 = true then ((impl_Nimber_203.f a1).bind fun t102 => (if t102 = true then (some (decide (a0 < a1))) else (some true))) else (some (decide (a0 < a1))))
set_option maxHeartbeats 8000000 in
set_option maxRecDepth 100000 in
theorem impl_Nimber_185.calls (a0 : Int) (a1 : Int) (r : Bool) (w : World) (h : impl_Nimber_185.f a0 a1 = some r) :
    Calls Try.prog 185 #[.int .u16 a0, .int .u16 a1] w fun e w' => e = .returned (.bool r) ∧ Drawn0 w w' := by
  have H : ((impl_Nimber_203.f a0).bind fun t101 => (if t101 = true then ((impl_Nimber_203.f a1).bind fun t102 => (if t102 = true then (some (decide (a0 < a1))) else (some true))) else (some (decide (a0 < a1))))) = some r := h
  clear h
  replace H := Option.bind_eq_some_iff.mp H
  obtain ⟨t101, A30, H⟩ := H
  replace H : (if t101 = true then ((impl_Nimber_203.f a1).bind fun t102 => (if t102 = true then (some (decide (a0 < a1))) else (some true))) else (some (decide (a0 < a1)))) = some r := H
  have A3 := Aside0.mk A30
  clear A30
  by_cases c4 : t101 = true
  · subst c4
    have H1 : ((impl_Nimber_203.f a1).bind fun t102 => (if t102 = true then (some (decide (a0 < a1))) else (some true))) = some r := by rw [if_pos rfl] at H; exact H
    clear H
    have H := H1
    clear H1
    replace H := Option.bind_eq_some_iff.mp H
    obtain ⟨t102, A50, H⟩ := H
    replace H : (if t102 = true then (some (decide (a0 < a1))) else (some true)) = some r := H
    have A5 := Aside0.mk A50
    clear A50
    by_cases c6 : t102 = true
    · subst c6
      have H1 : (some (decide (a0 < a1))) = some r := by rw [if_pos rfl] at H; exact H
      clear H
      have H := H1
      clear H1
      obtain rfl := Option.some.inj H
      go_enter Try.func185, Try.ntmps185
      go_wp2_with (first | ((with_reducible refine gate_callee (f := 203) rfl ?_); refine goesL_ (some 6) rfl rfl Try.func203 (by kernel_rfl) rfl #[.int .u16 a0] rfl (by (try simp only [List.map_toArray, List.map_cons, List.map_nil]); first | done | rfl | (simp only [List.length_drop, List.length_take]; rfl)) ?_; (with_reducible refine (impl_Nimber_203.calls a0 true _ A3.out).mono ?_); rintro e w' ⟨rfl, ⟨nd, rfl⟩⟩; refine ⟨_, rfl, ?_⟩) | (go_at_call 203; (with_reducible refine (impl_Nimber_203.calls a1 true _ A5.out).mono ?_); rintro e w' ⟨rfl, ⟨nd, rfl⟩⟩))
      go_ret
      exact ⟨by first | rfl | (simp; done) | (simp [*]; done), by repeat (first | exact Drawn0.refl _ | apply Drawn0.step)⟩
    · replace c6 := Bool.eq_false_iff.mpr c6
      subst c6
      have H1 : (some true) = some r := by rw [if_neg (show ¬ (false = true) by decide)] at H; exact H
      clear H
      have H := H1
      clear H1
      obtain rfl := Option.some.inj H
      go_enter Try.func185, Try.ntmps185
      go_wp2_with (first | ((with_reducible refine gate_callee (f := 203) rfl ?_); refine goesL_ (some 6) rfl rfl Try.func203 (by kernel_rfl) rfl #[.int .u16 a0] rfl (by (try simp only [List.map_toArray, List.map_cons, List.map_nil]); first | done | rfl | (simp only [List.length_drop, List.length_take]; rfl)) ?_; (with_reducible refine (impl_Nimber_203.calls a0 true _ A3.out).mono ?_); rintro e w' ⟨rfl, ⟨nd, rfl⟩⟩; refine ⟨_, rfl, ?_⟩) | (go_at_call 203; (with_reducible refine (impl_Nimber_203.calls a1 false _ A5.out).mono ?_); rintro e w' ⟨rfl, ⟨nd, rfl⟩⟩))
      go_ret
      exact ⟨by first | rfl | (simp; done) | (simp [*]; done), by repeat (first | exact Drawn0.refl _ | apply Drawn0.step)⟩
  · replace c4 := Bool.eq_false_iff.mpr c4
    subst c4
    have H1 : (some (decide (a0 < a1))) = some r := by rw [if_neg (show ¬ (false = true) by decide)] at H; exact H
    clear H
    have H := H1
    clear H1
    obtain rfl := Option.some.inj H
    go_enter Try.func185, Try.ntmps185
    go_wp2_with (first | ((with_reducible refine gate_callee (f := 203) rfl ?_); refine goesL_ (some 6) rfl rfl Try.func203 (by kernel_rfl) rfl #[.int .u16 a0] rfl (by (try simp only [List.map_toArray, List.map_cons, List.map_nil]); first | done | rfl | (simp only [List.length_drop, List.length_take]; rfl)) ?_; (with_reducible refine (impl_Nimber_203.calls a0 false _ A3.out).mono ?_); rintro e w' ⟨rfl, ⟨nd, rfl⟩⟩; refine ⟨_, rfl, ?_⟩))
    go_ret
    exact ⟨by first | rfl | (simp; done) | (simp [*]; done), by repeat (first | exact Drawn0.refl _ | apply Drawn0.step)⟩
end Go.Proofs.Ytadfobooofkelaa.X

-- Laid by wip/xprint.py of this session (the kit's print program, with some contracts given by hand). Not trusted: Lean checks it.
namespace Go.Proofs.Ytadfobooofkelaa.X
open Go.RowKit Go.Proofs.YtadfobooofkelaaW.PrintWords Go.Proofs.YtadfobooofkelaaW.PrintLast Go.Proofs.YtadfobooofkelaaW.PrintMore
attribute [local go_sem] max2_int min2_int max_two min_two max_three min_three max_four min_four
set_option linter.unusedVariables false
set_option linter.unusedSimpArgs false
mutual
def impl_Nimber_179.l0 : Nat → List Int → Int → Int → Int → Option (List Int)
  | 0, _, _, _, _ => none
  | k + 1, x0, x1, x2, x6 => if x6 < x2 then (impl_Nimber_179.l1 k x0 x1 x2 x6 x6) else (some x0)
def impl_Nimber_179.l1 : Nat → List Int → Int → Int → Int → Int → Option (List Int)
  | 0, _, _, _, _, _ => none
  | k + 1, x0, x1, x2, x6, x7 => if x7 > x1 then (if 0 ≤ x7 then (if x7 < (x0.length : Int) then (if 0 ≤ (wrap64 (x7 - 1)) then (if (wrap64 (x7 - 1)) < (x0.length : Int) then ((impl_Nimber_185.f (rd x0 x7) (rd x0 (wrap64 (x7 - 1)))).bind fun t103 => (if t103 = true then (impl_Nimber_179.l1 k ((x0.set (x7 : Int).toNat (rd x0 (wrap64 (x7 - 1)))).set ((wrap64 (x7 - 1)) : Int).toNat (rd x0 x7)) x1 x2 x6 (wrap64 (x7 - 1))) else (impl_Nimber_179.l0 k x0 x1 x2 (wrap64 (x6 + 1))))) else (none)) else (none)) else (none)) else (none)) else (impl_Nimber_179.l0 k x0 x1 x2 (wrap64 (x6 + 1)))
end
def impl_Nimber_179.f (k : Nat) (l0 : List Int) (a1 : Int) (a2 : Int) : Option (List Int) := impl_Nimber_179.l0 k l0 a1 a2 (wrap64 (a1 + 1))
def impl_Nimber_179.T4 : Bool × List (List Nat × List Nat) := (true, [([], []), ([], []), ([0, 1], [0, 1]), ([2], [2]), ([3], [3]), ([3], [3]), ([4, 5, 3], [3, 4, 5]), ([6, 3], [3, 6]), ([3], [3]), ([3], [3]), ([9, 3], [3, 9]), ([8, 10, 3], [3, 8, 10]), ([11, 3], [3, 11]), ([7, 12, 3, 3], [3, 7, 12]), ([3, 13], [3, 13])])
def impl_Nimber_179.B4 : List Nat := [0, 0, 3, 7, 15, 15, 63, 127, 15, 15, 527, 1807, 3855, 8191, 16383]
theorem impl_Nimber_179.tab4 : rtab .any (opsOf Try.f179 4) = impl_Nimber_179.T4 := by kernel_rfl
theorem impl_Nimber_179.bits4 : waitsOk impl_Nimber_179.T4.2 impl_Nimber_179.B4 = true := by kernel_rfl
def impl_Nimber_179.T6 : Bool × List (List Nat × List Nat) := (true, [([], []), ([], []), ([], []), ([], []), ([3], [3]), ([], []), ([], []), ([6], [6]), ([5, 7], [5, 7]), ([8], [8]), ([], []), ([], []), ([10, 11], [10, 11]), ([12], [12]), ([0, 1, 0, 1, 5, 6, 7, 8, 9, 13], [0, 1]), ([14, 9, 0, 1, 5, 6, 7, 8, 9, 13], [9, 14]), ([2, 4, 0, 1, 2, 3, 4, 5, 6, 7, 8, 9, 10, 11, 12, 13, 14, 15], [2, 4]), ([16, 13, 15, 0, 1, 2, 3, 4, 5, 6, 7, 8, 9, 10, 11, 12, 13, 14, 15], [13, 16])])
def impl_Nimber_179.B6 : List Nat := [0, 0, 0, 0, 8, 0, 0, 64, 224, 480, 0, 0, 3072, 7168, 16355, 32739, 65535, 131071]
theorem impl_Nimber_179.tab6 : rtab .any (opsOf Try.f179 6) = impl_Nimber_179.T6 := by kernel_rfl
theorem impl_Nimber_179.bits6 : waitsOk impl_Nimber_179.T6.2 impl_Nimber_179.B6 = true := by kernel_rfl
set_option maxHeartbeats 8000000 in
set_option maxRecDepth 100000 in
theorem impl_Nimber_179.calls (k : Nat) (P0_ : Nat → Prop) (u9000_ : Value) (l0 : List Int) (a1 : Int) (a2 : Int) (r : List Int) (w0 w : World) (hB : Below w0.heap.size w0 w) (ho0 : Kd.R (Kd.int .u16) 36 w w0.heap.size P0_ u9000_ l0) (h : impl_Nimber_179.f k l0 a1 a2 = some r) :
    Calls Try.prog 179 #[u9000_, .int .i64 a1, .int .i64 a2] w fun e w' => e = .returned (.tuple #[]) ∧ Kd.R (Kd.int .u16) 36 w' w0.heap.size (fun k_ => (P0_ k_ ∨ w.heap.size ≤ k_)) u9000_ r ∧ Below w0.heap.size w0 w' ∧ Kept w w' (fun k_ => P0_ k_) := by
  have HO0 := Aside0.mk (show Kd.R (Kd.int .u16) 36 w w0.heap.size (fun k_ => (P0_ k_ ∨ w.heap.size ≤ k_)) u9000_ l0 from Kd.R_mono ho0 (fun k_ hk => (.inl hk)))
  have HK := Aside0.mk (Kept.refl w (fun k_ => P0_ k_))
  have HW0 := Aside0.mk hB.size
  have HB := Aside0.mk hB
  clear hB
  have H : (impl_Nimber_179.l0 k l0 a1 a2 (wrap64 (a1 + 1))) = some r := h
  clear h
  have H' := Aside0.mk H
  clear H
  go_enter Try.func179, Try.ntmps179
  go_wp2
  go_loopg [6] k (fun kq v6 w' => ∃ (x0_1 : List Int) (x6_1 : Int), v6 = .int .i64 x6_1 ∧ Aside0 (impl_Nimber_179.l0 kq x0_1 a1 a2 x6_1 = some r) ∧ Aside0 (kq ≤ k) ∧ Aside0 (Kd.R (Kd.int .u16) 36 w' w0.heap.size (fun k_ => (P0_ k_ ∨ w.heap.size ≤ k_)) u9000_ x0_1) ∧ Aside0 (Kept w w' (fun k_ => P0_ k_)) ∧ Aside0 (Below w0.heap.size w0 w'))
  case atStart => exact ⟨(l0), (wrap64 (a1 + 1)), (by first | rfl | (simp; done) | (simp [*]; done)), H', ⟨Nat.le_refl _⟩, ⟨by (with_reducible repeat (first | apply Kd.R_alloc | apply Kd.R_drewN | apply Kd.R_drew)); exact HO0.out⟩, ⟨by repeat (first | (with_reducible first | exact HK.out | apply Kept.alloc | apply Kept.drewN | apply Kept.drew) | exact HK.out)⟩, ⟨by repeat (first | (with_reducible first | exact HB.out | apply below_alloc | apply pw_below_drewN | apply below_drew1) | exact HB.out)⟩⟩
  case round =>
    clear H'
    try clear c1
    try clear p2
    obtain ⟨x0_1, x6_1, rfl, HA, HK1, HO_0, HK, HB⟩ := hrel
    cases gk with
    | zero => exact absurd HA.out (by simp [impl_Nimber_179.l0])
    | succ k1 =>
      have H := HA.out
      clear HA
      simp only [impl_Nimber_179.l0] at H
      by_cases c4 : x6_1 < a2
      · rw [if_pos c4] at H
        have c4b0 : decide (x6_1 < a2) = true := decide_eq_true c4
        clear c4
        have H' := Aside0.mk H
        clear H
        go_wp2
        go_loopg [7] k1 (fun kq v7 w' => ∃ (x0_2 : List Int) (x7_2 : Int), v7 = .int .i64 x7_2 ∧ Aside0 (impl_Nimber_179.l1 kq x0_2 a1 a2 x6_1 x7_2 = some r) ∧ Aside0 (kq ≤ k1) ∧ Aside0 (Kd.R (Kd.int .u16) 36 w' w0.heap.size (fun k_ => (P0_ k_ ∨ w.heap.size ≤ k_)) u9000_ x0_2) ∧ Aside0 (Kept w w' (fun k_ => P0_ k_)) ∧ Aside0 (Below w0.heap.size w0 w'))
        case atStart => exact ⟨(x0_1), (x6_1), (by first | rfl | (simp; done) | (simp [*]; done)), H', ⟨Nat.le_refl _⟩, ⟨by (with_reducible repeat (first | apply Kd.R_alloc | apply Kd.R_drewN | apply Kd.R_drew)); exact HO_0.out⟩, ⟨by repeat (first | (with_reducible first | exact HK.out | apply Kept.alloc | apply Kept.drewN | apply Kept.drew) | exact HK.out)⟩, ⟨by repeat (first | (with_reducible first | exact HB.out | apply below_alloc | apply pw_below_drewN | apply below_drew1) | exact HB.out)⟩⟩
        case round =>
          clear H'
          try clear c1
          try clear p2
          try clear c4
          try clear c4b0
          try clear p2
          obtain ⟨x0_2, x7_2, rfl, HA, HK2, HO_0, HK, HB⟩ := hrel
          cases gk with
          | zero => exact absurd HA.out (by simp [impl_Nimber_179.l1])
          | succ k2 =>
            have H := HA.out
            clear HA
            simp only [impl_Nimber_179.l1] at H
            by_cases c5 : x7_2 > a1
            · rw [if_pos c5] at H
              have c5b0 : decide (a1 < x7_2) = true := decide_eq_true c5
              clear c5
              by_cases c6 : 0 ≤ x7_2
              · rw [if_pos c6] at H
                have c6b0 : decide (0 ≤ x7_2) = true := decide_eq_true c6
                clear c6
                by_cases c7 : x7_2 < (x0_2.length : Int)
                · rw [if_pos c7] at H
                  have c7b0 : decide (x7_2 < (x0_2.length : Int)) = true := decide_eq_true c7
                  clear c7
                  obtain ⟨ji8, hji8⟩ : ∃ j_ : Int, (wrap64 (x7_2 - 1)) = j_ := ⟨_, rfl⟩
                  replace H : (if 0 ≤ (ji8) then (if (ji8) < (x0_2.length : Int) then ((impl_Nimber_185.f (rd x0_2 x7_2) (rd x0_2 (ji8))).bind fun t103 => (if t103 = true then (impl_Nimber_179.l1 k2 ((x0_2.set (x7_2 : Int).toNat (rd x0_2 (ji8))).set ((ji8) : Int).toNat (rd x0_2 x7_2)) a1 a2 x6_1 ji8) else (impl_Nimber_179.l0 k2 x0_2 a1 a2 (wrap64 (x6_1 + 1))))) else (none)) else (none)) = some r := by first | (rw [hji8] at H; exact H) | (simp only [hji8] at H ⊢; exact H)
                  have hji8w : (IntKind.i64.wrap (x7_2 - 1)) = ji8 := (i64_w _).trans hji8
                  by_cases c9 : 0 ≤ (ji8)
                  · rw [if_pos c9] at H
                    have c9b0 : decide (0 ≤ (ji8)) = true := decide_eq_true c9
                    clear c9
                    by_cases c10 : (ji8) < (x0_2.length : Int)
                    · rw [if_pos c10] at H
                      have c10b0 : decide ((ji8) < (x0_2.length : Int)) = true := decide_eq_true c10
                      clear c10
                      replace H := Option.bind_eq_some_iff.mp H
                      obtain ⟨t103, A110, H⟩ := H
                      replace H : (if t103 = true then (impl_Nimber_179.l1 k2 ((x0_2.set (x7_2 : Int).toNat (rd x0_2 (ji8))).set ((ji8) : Int).toNat (rd x0_2 x7_2)) a1 a2 x6_1 ji8) else (impl_Nimber_179.l0 k2 x0_2 a1 a2 (wrap64 (x6_1 + 1)))) = some r := H
                      have A11 := Aside0.mk A110
                      clear A110
                      by_cases c12 : t103 = true
                      · subst c12
                        have H1 : (impl_Nimber_179.l1 k2 ((x0_2.set (x7_2 : Int).toNat (rd x0_2 (ji8))).set ((ji8) : Int).toNat (rd x0_2 x7_2)) a1 a2 x6_1 ji8) = some r := by rw [if_pos rfl] at H; exact H
                        clear H
                        have H := H1
                        clear H1
                        obtain ⟨y106, hy106⟩ : ∃ y_ : List Int, y_ = (x0_2.set (x7_2 : Int).toNat (rd x0_2 (ji8))) := ⟨_, rfl⟩
                        replace H : (impl_Nimber_179.l1 k2 (y106.set ((ji8) : Int).toNat (rd x0_2 x7_2)) a1 a2 x6_1 ji8) = some r := by first | (rw [hy106]; with_reducible exact H) | (have H2_ := (Option.bind_some _ _).symm.trans H; rw [hy106]; with_reducible exact H2_) | (have H2_ := (Option.bind_some _ _).symm.trans H; with_reducible exact H2_) | with_reducible exact H | (rw [hy106]; exact H) | exact H
                        have Ny106 := Aside0.mk hy106
                        clear hy106
                        obtain ⟨y107, hy107⟩ : ∃ y_ : List Int, y_ = (y106.set ((ji8) : Int).toNat (rd x0_2 x7_2)) := ⟨_, rfl⟩
                        replace H : (impl_Nimber_179.l1 k2 y107 a1 a2 x6_1 ji8) = some r := by first | (rw [hy107]; with_reducible exact H) | (have H2_ := (Option.bind_some _ _).symm.trans H; rw [hy107]; with_reducible exact H2_) | (have H2_ := (Option.bind_some _ _).symm.trans H; with_reducible exact H2_) | with_reducible exact H | (rw [hy107]; exact H) | exact H
                        have Ny107 := Aside0.mk hy107
                        clear hy107
                        have H' := Aside0.mk H
                        clear H
                        try go_wp2
                        have n0_ := Aside0.mk (Kd.R_drew HO_0.out)
                        have n1_ := Aside0.mk (Kept.drew HK.out)
                        have n2_ := Aside0.mk (below_drew1 HB.out)
                        clear HO_0
                        clear HK
                        clear HB
                        have HO_0 := n0_
                        have HK := n1_
                        have HB := n2_
                        clear n0_ n1_ n2_
                        obtain ⟨Ao16, co16, eo16⟩ := Kd.R_slice HO_0.out
                        (first | subst eo16 | (injection eo16 with f1_ f2_ f3_; have f4_ := f1_.symm; have f5_ := f3_.symm; clear f1_ f2_ f3_; subst f4_; subst f5_))
                        have p101 : 0 ≤ (x7_2 : Int) := of_decide_eq_true (by first | (with_reducible assumption) | assumption)
                        have q101 : x7_2 < (x0_2.length : Int) := of_decide_eq_true (by first | (with_reducible assumption) | assumption)
                        obtain ⟨ad101, e101, hx101_0⟩ := Kd.at_int (Kd.R_reads' HO_0.out).2.2 x7_2 p101 q101
                        cases e101
                        replace p101 := eq_true p101
                        replace q101 := eq_true q101
                        have p102 : 0 ≤ ((ji8) : Int) := of_decide_eq_true (by first | (with_reducible assumption) | assumption)
                        have q102 : (ji8) < (x0_2.length : Int) := of_decide_eq_true (by first | (with_reducible assumption) | assumption)
                        obtain ⟨ad102, e102, hx102_0⟩ := Kd.at_int (Kd.R_reads' HO_0.out).2.2 (ji8) p102 q102
                        obtain rfl : ad101 = ad102 := (by injection e102)
                        replace p102 := eq_true p102
                        replace q102 := eq_true q102
                        refine start_ (n := 15) (S := fun w' => w'.cell? (ad101.add (x7_2).toNat) = some (.int .u16 (rd x0_2 x7_2)) ∧ w'.cell? (ad101.add ((ji8)).toNat) = some (.int .u16 (rd x0_2 (ji8)))) (ds := []) #[false, false, false, false, false, false, false, false, false, false, false, false, false, false, false] (by kernel_rfl) rfl rfl ⟨hx101_0, hx102_0⟩ (fun hHeld => ?_); refine with_tabW impl_Nimber_179.tab4 impl_Nimber_179.bits4 (fun HT_ HW_ => ?_)
                        generalize wr.drew = w15 at HO_0 HK HB hx101_0 hx102_0 hHeld ⊢
                        refine pure_ (i := 0) (N := some 16) (v := ?_) (a' := ?_) #[true, false, false, false, false, false, false, false, false, false, false, false, false, false, false] rfl rfl (any_of HT_.out (by kernel_rfl)) (fun _ _ _ h => h) (Or.inl ⟨by rfl, ?_⟩) ?_ ?_
                        rotate_left
                        · intro w'
                          go_simp
                          with_reducible rfl
                        rotate_left
                        · simp only [Act.put, List.setIfInBounds_toArray, List.set_cons_zero, List.set_cons_succ, i64_w, i32_w]
                          rfl
                        refine pure_ (i := 1) (N := some 17) (v := ?_) (a' := ?_) #[true, true, false, false, false, false, false, false, false, false, false, false, false, false, false] rfl rfl (any_of HT_.out (by kernel_rfl)) (fun _ _ _ h => h) (Or.inl ⟨by rfl, ?_⟩) ?_ ?_
                        rotate_left
                        · intro w'
                          go_simp
                          with_reducible rfl
                        rotate_left
                        · simp only [Act.put, List.setIfInBounds_toArray, List.set_cons_zero, List.set_cons_succ, i64_w, i32_w]
                          rfl
                        refine pure_ (i := 2) (N := some 18) (v := ?_) (a' := ?_) #[true, true, true, false, false, false, false, false, false, false, false, false, false, false, false] rfl rfl (any_of HT_.out (by kernel_rfl)) (fun _ _ _ h => h) (Or.inl ⟨by rfl, ?_⟩) ?_ ?_
                        rotate_left
                        · intro w'
                          go_simp
                          with_reducible rfl
                        rotate_left
                        · simp only [Act.put, List.setIfInBounds_toArray, List.set_cons_zero, List.set_cons_succ, i64_w, i32_w]
                          rfl
                        refine pure_ (i := 3) (N := some 19) (v := ?_) (a' := ?_) #[true, true, true, true, false, false, false, false, false, false, false, false, false, false, false] rfl rfl (any_of HT_.out (by kernel_rfl)) (fun _ _ _ h => h) (Or.inl ⟨by rfl, ?_⟩) ?_ ?_
                        rotate_left
                        · intro w'
                          go_simp
                          with_reducible rfl
                        rotate_left
                        · simp only [Act.put, List.setIfInBounds_toArray, List.set_cons_zero, List.set_cons_succ, i64_w, i32_w]
                          rfl
                        refine pure_ (i := 4) (N := some 20) (v := ?_) (a' := ?_) #[true, true, true, true, true, false, false, false, false, false, false, false, false, false, false] rfl rfl (any_of HT_.out (by kernel_rfl)) (fun _ _ _ h => h) (Or.inl ⟨by rfl, ?_⟩) ?_ ?_
                        rotate_left
                        · intro w'
                          go_simp
                          with_reducible rfl
                        rotate_left
                        · simp only [Act.put, List.setIfInBounds_toArray, List.set_cons_zero, List.set_cons_succ, i64_w, i32_w]
                          rfl
                        refine pure_ (i := 5) (N := some 21) (v := ?_) (a' := ?_) #[true, true, true, true, true, true, false, false, false, false, false, false, false, false, false] rfl rfl (any_of HT_.out (by kernel_rfl)) (fun _ _ _ h => h) (Or.inl ⟨by rfl, ?_⟩) ?_ ?_
                        rotate_left
                        · intro w'
                          go_simp
                          with_reducible rfl
                        rotate_left
                        · simp only [Act.put, List.setIfInBounds_toArray, List.set_cons_zero, List.set_cons_succ, i64_w, i32_w]
                          rfl
                        refine pure_ (i := 6) (N := some 22) (v := ?_) (a' := ?_) #[true, true, true, true, true, true, true, false, false, false, false, false, false, false, false] rfl rfl (any_of HT_.out (by kernel_rfl)) (fun _ _ _ h => h) (Or.inl ⟨by rfl, ?_⟩) ?_ ?_
                        rotate_left
                        · intro w'
                          go_simp
                          with_reducible rfl
                        rotate_left
                        · simp only [Act.put, List.setIfInBounds_toArray, List.set_cons_zero, List.set_cons_succ, i64_w, i32_w]
                          rfl
                        refine pure_ (i := 8) (N := some 24) (v := ?_) (a' := ?_) #[true, true, true, true, true, true, true, false, true, false, false, false, false, false, false] rfl rfl (any_of HT_.out (by kernel_rfl)) (fun _ _ _ h => h) (Or.inl ⟨by rfl, ?_⟩) ?_ ?_
                        rotate_left
                        · intro w'
                          go_simp
                          with_reducible rfl
                        rotate_left
                        · simp only [Act.put, List.setIfInBounds_toArray, List.set_cons_zero, List.set_cons_succ, i64_w, i32_w]
                          rfl
                        refine pure_ (i := 9) (N := some 25) (v := ?_) (a' := ?_) #[true, true, true, true, true, true, true, false, true, true, false, false, false, false, false] rfl rfl (any_of HT_.out (by kernel_rfl)) (fun _ _ _ h => h) (Or.inl ⟨by rfl, ?_⟩) ?_ ?_
                        rotate_left
                        · intro w'
                          go_simp
                          with_reducible rfl
                        rotate_left
                        · simp only [Act.put, List.setIfInBounds_toArray, List.set_cons_zero, List.set_cons_succ, i64_w, i32_w]
                          rfl
                        refine pure_ (i := 10) (N := some 26) (v := ?_) (a' := ?_) #[true, true, true, true, true, true, true, false, true, true, true, false, false, false, false] rfl rfl (any_of HT_.out (by kernel_rfl)) (fun _ _ _ h => h) (Or.inl ⟨by rfl, ?_⟩) ?_ ?_
                        rotate_left
                        · intro w'
                          go_simp
                          with_reducible rfl
                        rotate_left
                        · simp only [Act.put, List.setIfInBounds_toArray, List.set_cons_zero, List.set_cons_succ, i64_w, i32_w]
                          rfl
                        refine pure_ (i := 11) (N := some 27) (v := ?_) (a' := ?_) #[true, true, true, true, true, true, true, false, true, true, true, true, false, false, false] rfl rfl (any_of HT_.out (by kernel_rfl)) (fun _ _ _ h => h) (Or.inl ⟨by rfl, ?_⟩) ?_ ?_
                        rotate_left
                        · intro w'
                          go_simp
                          with_reducible rfl
                        rotate_left
                        · simp only [Act.put, List.setIfInBounds_toArray, List.set_cons_zero, List.set_cons_succ, i64_w, i32_w]
                          rfl
                        refine take_ (i := 7) (N := some 23) (v := ?_) (a' := ?_) #[true, true, true, true, true, true, true, true, true, true, true, true, false, false, false] rfl rfl (take_ofW HT_.out HW_.out (by kernel_rfl)) (fun _ _ _ h => h) (Or.inl ⟨by rfl, ?_⟩) hHeld ?_ ?_
                        rotate_left
                        · rintro w' ⟨s0, s1⟩
                          go_simp
                          with_reducible rfl
                        rotate_left
                        · simp only [Act.put, List.setIfInBounds_toArray, List.set_cons_zero, List.set_cons_succ, i64_w, i32_w]
                          rfl
                        refine take_ (i := 12) (N := some 28) (v := ?_) (a' := ?_) #[true, true, true, true, true, true, true, true, true, true, true, true, true, false, false] rfl rfl (take_ofW HT_.out HW_.out (by kernel_rfl)) (fun _ _ _ h => h) (Or.inl ⟨by rfl, ?_⟩) hHeld ?_ ?_
                        rotate_left
                        · rintro w' ⟨s0, s1⟩
                          go_simp
                          with_reducible rfl
                        rotate_left
                        · simp only [Act.put, List.setIfInBounds_toArray, List.set_cons_zero, List.set_cons_succ, i64_w, i32_w]
                          rfl
                        refine one_ (i := 13) (N := some 29) #[true, true, true, true, true, true, true, true, true, true, true, true, true, true, false] rfl rfl (one_of HT_.out (by kernel_rfl)) (by decide) (fun K hK => ?_)
                        refine goes_ Try.func185 (by kernel_rfl) rfl #[.int .u16 (rd x0_2 x7_2), .int .u16 (rd x0_2 (ji8))] (by rfl) rfl rfl (by (try simp only [List.map_toArray, List.map_cons, List.map_nil]); first | done | (simp only [hji8]; rfl) | rfl | (simp only [List.length_drop, List.length_take]; rfl)) ?_
                        with_reducible refine (impl_Nimber_185.calls (rd x0_2 x7_2) (rd x0_2 (ji8)) true _ A11.out).mono ?_
                        rintro e w' ⟨rfl, ⟨nd, rfl⟩⟩
                        refine ⟨_, rfl, ?_⟩
                        refine hK.out _ _ ⟨hHeld.1, hHeld.2⟩ (fun hHeld => ?_)
                        clear hK K
                        refine norm_ (a' := ?_) ?_ ?_
                        rotate_left
                        · show Act.put _ (some 29) _ = _
                          simp only [Act.put, List.setIfInBounds_toArray, List.set_cons_zero, List.set_cons_succ, i64_w, i32_w]
                          rfl
                        refine pure_ (i := 14) (N := some 30) (v := ?_) (a' := ?_) #[true, true, true, true, true, true, true, true, true, true, true, true, true, true, true] rfl rfl (any_of HT_.out (by kernel_rfl)) (fun _ _ _ h => h) (Or.inl ⟨by rfl, ?_⟩) ?_ ?_
                        rotate_left
                        · intro w'
                          go_simp
                          with_reducible rfl
                        rotate_left
                        · simp only [Act.put, List.setIfInBounds_toArray, List.set_cons_zero, List.set_cons_succ, i64_w, i32_w]
                          rfl
                        refine done_ (done_of HT_.out (by kernel_rfl)) ?_
                        try go_wp2
                        (try (rw [drewN_self w15]; generalize hq_ : World.drewN w15 _ = w15; have n0_ : Aside0 (Kd.R (Kd.int .u16) 36 w15 w0.heap.size (fun k_ => (P0_ k_ ∨ w.heap.size ≤ k_)) (.slice (some ad101) x0_2.length co16) x0_2) := ⟨by rw [← hq_]; exact (by (with_reducible repeat (first | apply Kd.R_alloc | apply Kd.R_drewN | apply Kd.R_drew)); exact HO_0.out)⟩; have n1_ : Aside0 (Kept w w15 (fun k_ => P0_ k_)) := ⟨by rw [← hq_]; exact (by repeat (first | (with_reducible first | exact HK.out | apply Kept.alloc | apply Kept.drewN | apply Kept.drew) | exact HK.out))⟩; have n2_ : Aside0 (Below w0.heap.size w0 w15) := ⟨by rw [← hq_]; exact (by repeat (first | (with_reducible first | exact HB.out | apply below_alloc | apply pw_below_drewN | apply below_drew1) | exact HB.out))⟩; clear HO_0 HK HB hq_; have HO_0 := n0_; have HK := n1_; have HB := n2_; clear n0_ n1_ n2_))
                        have n0_ := Aside0.mk (Kd.R_drew HO_0.out)
                        have n1_ := Aside0.mk (Kept.drew HK.out)
                        have n2_ := Aside0.mk (below_drew1 HB.out)
                        clear HO_0
                        clear HK
                        clear HB
                        have HO_0 := n0_
                        have HK := n1_
                        have HB := n2_
                        clear n0_ n1_ n2_
                        have p104 : 0 ≤ ((ji8) : Int) := of_decide_eq_true (by first | (with_reducible assumption) | assumption)
                        have q104 : (ji8) < (x0_2.length : Int) := of_decide_eq_true (by first | (with_reducible assumption) | assumption)
                        obtain ⟨ad104, e104, hx104_0⟩ := Kd.at_int (Kd.R_reads' HO_0.out).2.2 (ji8) p104 q104
                        obtain rfl : ad101 = ad104 := (by injection e104)
                        replace p104 := eq_true p104
                        replace q104 := eq_true q104
                        have p105 : 0 ≤ (x7_2 : Int) := of_decide_eq_true (by first | (with_reducible assumption) | assumption)
                        have q105 : x7_2 < (x0_2.length : Int) := of_decide_eq_true (by first | (with_reducible assumption) | assumption)
                        obtain ⟨ad105, e105, hx105_0⟩ := Kd.at_int (Kd.R_reads' HO_0.out).2.2 x7_2 p105 q105
                        obtain rfl : ad101 = ad105 := (by injection e105)
                        replace p105 := eq_true p105
                        replace q105 := eq_true q105
                        have p13 : 0 ≤ (x7_2 : Int) := of_decide_eq_true (by first | (with_reducible assumption) | assumption)
                        have q13 : (x7_2 : Int) < ((x0_2.length : Int) : Int) := of_decide_eq_true (by first | (with_reducible assumption) | assumption)
                        obtain ⟨go13, co13, eo13, gb13, gl13, cl13, HG13⟩ := Kd.R_form HO_0.out (by omega)
                        (first | cases eo13 | (injection eo13 with ea_ en_ ec_; (first | subst ea_ | (injection ea_ with ea_; subst ea_)); subst ec_; clear en_))
                        have GB13 := Aside0.mk gb13
                        have GG13 := Aside0.mk HG13
                        clear gb13 gl13 HG13
                        have HMgo13 := Aside0.mk (show (P0_ go13 ∨ w.heap.size ≤ go13) from (HO_0.out.1 _ rfl))
                        (first | simp only [add_plain] at hx101_0 | skip)
                        (first | simp only [add_plain] at hx102_0 | skip)
                        (first | simp only [add_plain] at hx104_0 | skip)
                        (first | simp only [add_plain] at hx105_0 | skip)
                        obtain ⟨hx13_0, hf13_0⟩ := Kd.R_celln 0 HO_0.out (x7_2 : Int) p13 q13
                        replace p13 := eq_true p13
                        replace q13 := eq_true q13
                        have HP18 := Kd.R_putn HO_0.out (x7_2 : Int) (rd x0_2 (ji8))
                        rw [← Ny106.out] at HP18
                        have HQ18 := Aside0.mk HP18
                        clear HP18
                        have p14 : 0 ≤ ((ji8) : Int) := of_decide_eq_true (by first | (with_reducible assumption) | assumption)
                        have q14 : ((ji8) : Int) < ((x0_2.length : Int) : Int) := of_decide_eq_true (by first | (with_reducible assumption) | assumption)
                        obtain ⟨hx14_0, hf14_0⟩ := Kd.R_celln 0 HQ18.out ((ji8) : Int) p14 q14
                        replace p14 := eq_true p14
                        replace q14 := eq_true q14
                        have HP19 := Kd.R_putn HQ18.out ((ji8) : Int) (rd x0_2 x7_2)
                        rw [← Ny107.out] at HP19
                        have HQ19 := Aside0.mk HP19
                        clear HP19
                        refine start_ (n := 18) (S := fun w' => w'.cell? ⟨go13, ((ji8)).toNat, none⟩ = some (.int .u16 (rd x0_2 (ji8))) ∧ w'.cell? ⟨go13, (x7_2).toNat, none⟩ = some (.int .u16 (rd x0_2 x7_2))) (ds := [15, 17]) #[false, false, false, false, false, false, false, false, false, false, false, false, false, false, false, false, false, false] (by kernel_rfl) rfl rfl ⟨hx104_0, hx105_0⟩ (fun hHeld => ?_); refine with_tabW impl_Nimber_179.tab6 impl_Nimber_179.bits6 (fun HT_ HW_ => ?_)
                        generalize w15.drew = w17 at HO_0 HK HB GG13 HQ18 HQ19 hf13_0 hf14_0 hx101_0 hx102_0 hx104_0 hx105_0 hx13_0 hx14_0 hHeld ⊢
                        refine pure_ (i := 0) (N := some 33) (v := ?_) (a' := ?_) #[true, false, false, false, false, false, false, false, false, false, false, false, false, false, false, false, false, false] rfl rfl (any_of HT_.out (by kernel_rfl)) (fun _ _ _ h => h) (Or.inl ⟨by rfl, ?_⟩) ?_ ?_
                        rotate_left
                        · intro w'
                          go_simp
                          with_reducible rfl
                        rotate_left
                        · simp only [Act.put, List.setIfInBounds_toArray, List.set_cons_zero, List.set_cons_succ, i64_w, i32_w]
                          rfl
                        refine pure_ (i := 1) (N := some 34) (v := ?_) (a' := ?_) #[true, true, false, false, false, false, false, false, false, false, false, false, false, false, false, false, false, false] rfl rfl (any_of HT_.out (by kernel_rfl)) (fun _ _ _ h => h) (Or.inl ⟨by rfl, ?_⟩) ?_ ?_
                        rotate_left
                        · intro w'
                          go_simp
                          with_reducible rfl
                        rotate_left
                        · simp only [Act.put, List.setIfInBounds_toArray, List.set_cons_zero, List.set_cons_succ, i64_w, i32_w]
                          rfl
                        refine pure_ (i := 2) (N := some 35) (v := ?_) (a' := ?_) #[true, true, true, false, false, false, false, false, false, false, false, false, false, false, false, false, false, false] rfl rfl (any_of HT_.out (by kernel_rfl)) (fun _ _ _ h => h) (Or.inl ⟨by rfl, ?_⟩) ?_ ?_
                        rotate_left
                        · intro w'
                          go_simp
                          with_reducible rfl
                        rotate_left
                        · simp only [Act.put, List.setIfInBounds_toArray, List.set_cons_zero, List.set_cons_succ, i64_w, i32_w]
                          rfl
                        refine pure_ (i := 3) (N := some 36) (v := ?_) (a' := ?_) #[true, true, true, true, false, false, false, false, false, false, false, false, false, false, false, false, false, false] rfl rfl (any_of HT_.out (by kernel_rfl)) (fun _ _ _ h => h) (Or.inl ⟨by rfl, ?_⟩) ?_ ?_
                        rotate_left
                        · intro w'
                          go_simp
                          with_reducible rfl
                        rotate_left
                        · simp only [Act.put, List.setIfInBounds_toArray, List.set_cons_zero, List.set_cons_succ, i64_w, i32_w]
                          rfl
                        refine pure_ (i := 4) (N := some 37) (v := ?_) (a' := ?_) #[true, true, true, true, true, false, false, false, false, false, false, false, false, false, false, false, false, false] rfl rfl (any_of HT_.out (by kernel_rfl)) (fun _ _ _ h => h) (Or.inl ⟨by rfl, ?_⟩) ?_ ?_
                        rotate_left
                        · intro w'
                          go_simp
                          with_reducible rfl
                        rotate_left
                        · simp only [Act.put, List.setIfInBounds_toArray, List.set_cons_zero, List.set_cons_succ, i64_w, i32_w]
                          rfl
                        refine pure_ (i := 5) (N := some 38) (v := ?_) (a' := ?_) #[true, true, true, true, true, true, false, false, false, false, false, false, false, false, false, false, false, false] rfl rfl (any_of HT_.out (by kernel_rfl)) (fun _ _ _ h => h) (Or.inl ⟨by rfl, ?_⟩) ?_ ?_
                        rotate_left
                        · intro w'
                          go_simp
                          with_reducible rfl
                        rotate_left
                        · simp only [Act.put, List.setIfInBounds_toArray, List.set_cons_zero, List.set_cons_succ, i64_w, i32_w]
                          rfl
                        refine pure_ (i := 6) (N := some 39) (v := ?_) (a' := ?_) #[true, true, true, true, true, true, true, false, false, false, false, false, false, false, false, false, false, false] rfl rfl (any_of HT_.out (by kernel_rfl)) (fun _ _ _ h => h) (Or.inl ⟨by rfl, ?_⟩) ?_ ?_
                        rotate_left
                        · intro w'
                          go_simp
                          with_reducible rfl
                        rotate_left
                        · simp only [Act.put, List.setIfInBounds_toArray, List.set_cons_zero, List.set_cons_succ, i64_w, i32_w]
                          rfl
                        refine pure_ (i := 7) (N := some 40) (v := ?_) (a' := ?_) #[true, true, true, true, true, true, true, true, false, false, false, false, false, false, false, false, false, false] rfl rfl (any_of HT_.out (by kernel_rfl)) (fun _ _ _ h => h) (Or.inl ⟨by rfl, ?_⟩) ?_ ?_
                        rotate_left
                        · intro w'
                          go_simp
                          with_reducible rfl
                        rotate_left
                        · simp only [Act.put, List.setIfInBounds_toArray, List.set_cons_zero, List.set_cons_succ, i64_w, i32_w]
                          rfl
                        refine pure_ (i := 8) (N := some 41) (v := ?_) (a' := ?_) #[true, true, true, true, true, true, true, true, true, false, false, false, false, false, false, false, false, false] rfl rfl (any_of HT_.out (by kernel_rfl)) (fun _ _ _ h => h) (Or.inl ⟨by rfl, ?_⟩) ?_ ?_
                        rotate_left
                        · intro w'
                          go_simp
                          with_reducible rfl
                        rotate_left
                        · simp only [Act.put, List.setIfInBounds_toArray, List.set_cons_zero, List.set_cons_succ, i64_w, i32_w]
                          rfl
                        refine pure_ (i := 10) (N := some 43) (v := ?_) (a' := ?_) #[true, true, true, true, true, true, true, true, true, false, true, false, false, false, false, false, false, false] rfl rfl (any_of HT_.out (by kernel_rfl)) (fun _ _ _ h => h) (Or.inl ⟨by rfl, ?_⟩) ?_ ?_
                        rotate_left
                        · intro w'
                          go_simp
                          with_reducible rfl
                        rotate_left
                        · simp only [Act.put, List.setIfInBounds_toArray, List.set_cons_zero, List.set_cons_succ, i64_w, i32_w]
                          rfl
                        refine pure_ (i := 11) (N := some 44) (v := ?_) (a' := ?_) #[true, true, true, true, true, true, true, true, true, false, true, true, false, false, false, false, false, false] rfl rfl (any_of HT_.out (by kernel_rfl)) (fun _ _ _ h => h) (Or.inl ⟨by rfl, ?_⟩) ?_ ?_
                        rotate_left
                        · intro w'
                          go_simp
                          with_reducible rfl
                        rotate_left
                        · simp only [Act.put, List.setIfInBounds_toArray, List.set_cons_zero, List.set_cons_succ, i64_w, i32_w]
                          rfl
                        refine pure_ (i := 12) (N := some 45) (v := ?_) (a' := ?_) #[true, true, true, true, true, true, true, true, true, false, true, true, true, false, false, false, false, false] rfl rfl (any_of HT_.out (by kernel_rfl)) (fun _ _ _ h => h) (Or.inl ⟨by rfl, ?_⟩) ?_ ?_
                        rotate_left
                        · intro w'
                          go_simp
                          with_reducible rfl
                        rotate_left
                        · simp only [Act.put, List.setIfInBounds_toArray, List.set_cons_zero, List.set_cons_succ, i64_w, i32_w]
                          rfl
                        refine take_ (i := 9) (N := some 42) (v := ?_) (a' := ?_) #[true, true, true, true, true, true, true, true, true, true, true, true, true, false, false, false, false, false] rfl rfl (take_ofW HT_.out HW_.out (by kernel_rfl)) (fun _ _ _ h => h) (Or.inl ⟨by rfl, ?_⟩) hHeld ?_ ?_
                        rotate_left
                        · rintro w' ⟨s0, s1⟩
                          go_simp
                          with_reducible rfl
                        rotate_left
                        · simp only [Act.put, List.setIfInBounds_toArray, List.set_cons_zero, List.set_cons_succ, i64_w, i32_w]
                          rfl
                        refine take_ (i := 13) (N := some 46) (v := ?_) (a' := ?_) #[true, true, true, true, true, true, true, true, true, true, true, true, true, true, false, false, false, false] rfl rfl (take_ofW HT_.out HW_.out (by kernel_rfl)) (fun _ _ _ h => h) (Or.inl ⟨by rfl, ?_⟩) hHeld ?_ ?_
                        rotate_left
                        · rintro w' ⟨s0, s1⟩
                          go_simp
                          with_reducible rfl
                        rotate_left
                        · simp only [Act.put, List.setIfInBounds_toArray, List.set_cons_zero, List.set_cons_succ, i64_w, i32_w]
                          rfl
                        refine pure_ (i := 14) (N := some 47) (v := ?_) (a' := ?_) #[true, true, true, true, true, true, true, true, true, true, true, true, true, true, true, false, false, false] rfl rfl (any_of HT_.out (by kernel_rfl)) (fun _ _ _ h => h) (Or.inl ⟨by rfl, ?_⟩) ?_ ?_
                        rotate_left
                        · intro w'
                          go_simp
                          with_reducible rfl
                        rotate_left
                        · simp only [Act.put, List.setIfInBounds_toArray, List.set_cons_zero, List.set_cons_succ, i64_w, i32_w]
                          rfl
                        refine last_ (i := 15) (N := none) #[true, true, true, true, true, true, true, true, true, true, true, true, true, true, true, true, false, false] rfl rfl (one_of HT_.out (by kernel_rfl)) (by decide) (fun K hK => ?_)
                        refine skip_ (w1 := ?_) (by rfl) rfl ?_ ?_
                        rotate_left
                        · go_simp
                          rfl
                        refine hK.out _ _ ?_
                        clear hK K
                        refine pure_ (i := 16) (N := some 48) (v := ?_) (a' := ?_) #[true, true, true, true, true, true, true, true, true, true, true, true, true, true, true, true, true, false] rfl rfl (any_of HT_.out (by kernel_rfl)) (fun _ _ _ h => h) (Or.inl ⟨by rfl, ?_⟩) ?_ ?_
                        rotate_left
                        · intro w'
                          go_simp
                          with_reducible rfl
                        rotate_left
                        · simp only [Act.put, List.setIfInBounds_toArray, List.set_cons_zero, List.set_cons_succ, i64_w, i32_w]
                          rfl
                        refine last_ (i := 17) (N := none) #[true, true, true, true, true, true, true, true, true, true, true, true, true, true, true, true, true, true] rfl rfl (one_of HT_.out (by kernel_rfl)) (by decide) (fun K hK => ?_)
                        refine skip_ (w1 := ?_) (by rfl) rfl ?_ ?_
                        rotate_left
                        · go_simp
                          rfl
                        refine hK.out _ _ ?_
                        clear hK K
                        refine done_ (done_of HT_.out (by kernel_rfl)) ?_
                        try go_wp2
                        go_roundg k2
                        case measure => have := HK1.out; have := HK2.out; omega
                        case rel => exact ⟨(y107), (ji8), (by first | rfl | (simp; done) | (simp only [← hji8] <;> (first | rfl | simp)) | (simp [*]; done)), H', ⟨by have := HK1.out; have := HK2.out; omega⟩, ⟨by (with_reducible repeat (first | apply Kd.R_alloc | apply Kd.R_drewN | apply Kd.R_drew)); exact HQ19.out⟩, ⟨by repeat (first | (with_reducible first | exact HK.out | apply Kept.alloc | apply Kept.drewN | apply Kept.drew | refine Kept.setCell ?_ HMgo13.out _ | refine Kept.setCell ?_ HMgo13.out _) | exact HK.out)⟩, ⟨by repeat (first | (with_reducible first | exact HB.out | apply below_alloc | apply pw_below_drewN | apply below_drew1 | refine below_set ?_ GB13.out | refine below_set ?_ GB13.out) | exact HB.out)⟩⟩
                      · replace c12 := Bool.eq_false_iff.mpr c12
                        subst c12
                        have H1 : (impl_Nimber_179.l0 k2 x0_2 a1 a2 (wrap64 (x6_1 + 1))) = some r := by rw [if_neg (show ¬ (false = true) by decide)] at H; exact H
                        clear H
                        have H := H1
                        clear H1
                        have H' := Aside0.mk H
                        clear H
                        try go_wp2
                        have n0_ := Aside0.mk (Kd.R_drew HO_0.out)
                        have n1_ := Aside0.mk (Kept.drew HK.out)
                        have n2_ := Aside0.mk (below_drew1 HB.out)
                        clear HO_0
                        clear HK
                        clear HB
                        have HO_0 := n0_
                        have HK := n1_
                        have HB := n2_
                        clear n0_ n1_ n2_
                        obtain ⟨Ao21, co21, eo21⟩ := Kd.R_slice HO_0.out
                        (first | subst eo21 | (injection eo21 with f1_ f2_ f3_; have f4_ := f1_.symm; have f5_ := f3_.symm; clear f1_ f2_ f3_; subst f4_; subst f5_))
                        have p101 : 0 ≤ (x7_2 : Int) := of_decide_eq_true (by first | (with_reducible assumption) | assumption)
                        have q101 : x7_2 < (x0_2.length : Int) := of_decide_eq_true (by first | (with_reducible assumption) | assumption)
                        obtain ⟨ad101, e101, hx101_0⟩ := Kd.at_int (Kd.R_reads' HO_0.out).2.2 x7_2 p101 q101
                        cases e101
                        replace p101 := eq_true p101
                        replace q101 := eq_true q101
                        have p102 : 0 ≤ ((ji8) : Int) := of_decide_eq_true (by first | (with_reducible assumption) | assumption)
                        have q102 : (ji8) < (x0_2.length : Int) := of_decide_eq_true (by first | (with_reducible assumption) | assumption)
                        obtain ⟨ad102, e102, hx102_0⟩ := Kd.at_int (Kd.R_reads' HO_0.out).2.2 (ji8) p102 q102
                        obtain rfl : ad101 = ad102 := (by injection e102)
                        replace p102 := eq_true p102
                        replace q102 := eq_true q102
                        refine start_ (n := 15) (S := fun w' => w'.cell? (ad101.add (x7_2).toNat) = some (.int .u16 (rd x0_2 x7_2)) ∧ w'.cell? (ad101.add ((ji8)).toNat) = some (.int .u16 (rd x0_2 (ji8)))) (ds := []) #[false, false, false, false, false, false, false, false, false, false, false, false, false, false, false] (by kernel_rfl) rfl rfl ⟨hx101_0, hx102_0⟩ (fun hHeld => ?_); refine with_tabW impl_Nimber_179.tab4 impl_Nimber_179.bits4 (fun HT_ HW_ => ?_)
                        generalize wr.drew = w20 at HO_0 HK HB hx101_0 hx102_0 hHeld ⊢
                        refine pure_ (i := 0) (N := some 16) (v := ?_) (a' := ?_) #[true, false, false, false, false, false, false, false, false, false, false, false, false, false, false] rfl rfl (any_of HT_.out (by kernel_rfl)) (fun _ _ _ h => h) (Or.inl ⟨by rfl, ?_⟩) ?_ ?_
                        rotate_left
                        · intro w'
                          go_simp
                          with_reducible rfl
                        rotate_left
                        · simp only [Act.put, List.setIfInBounds_toArray, List.set_cons_zero, List.set_cons_succ, i64_w, i32_w]
                          rfl
                        refine pure_ (i := 1) (N := some 17) (v := ?_) (a' := ?_) #[true, true, false, false, false, false, false, false, false, false, false, false, false, false, false] rfl rfl (any_of HT_.out (by kernel_rfl)) (fun _ _ _ h => h) (Or.inl ⟨by rfl, ?_⟩) ?_ ?_
                        rotate_left
                        · intro w'
                          go_simp
                          with_reducible rfl
                        rotate_left
                        · simp only [Act.put, List.setIfInBounds_toArray, List.set_cons_zero, List.set_cons_succ, i64_w, i32_w]
                          rfl
                        refine pure_ (i := 2) (N := some 18) (v := ?_) (a' := ?_) #[true, true, true, false, false, false, false, false, false, false, false, false, false, false, false] rfl rfl (any_of HT_.out (by kernel_rfl)) (fun _ _ _ h => h) (Or.inl ⟨by rfl, ?_⟩) ?_ ?_
                        rotate_left
                        · intro w'
                          go_simp
                          with_reducible rfl
                        rotate_left
                        · simp only [Act.put, List.setIfInBounds_toArray, List.set_cons_zero, List.set_cons_succ, i64_w, i32_w]
                          rfl
                        refine pure_ (i := 3) (N := some 19) (v := ?_) (a' := ?_) #[true, true, true, true, false, false, false, false, false, false, false, false, false, false, false] rfl rfl (any_of HT_.out (by kernel_rfl)) (fun _ _ _ h => h) (Or.inl ⟨by rfl, ?_⟩) ?_ ?_
                        rotate_left
                        · intro w'
                          go_simp
                          with_reducible rfl
                        rotate_left
                        · simp only [Act.put, List.setIfInBounds_toArray, List.set_cons_zero, List.set_cons_succ, i64_w, i32_w]
                          rfl
                        refine pure_ (i := 4) (N := some 20) (v := ?_) (a' := ?_) #[true, true, true, true, true, false, false, false, false, false, false, false, false, false, false] rfl rfl (any_of HT_.out (by kernel_rfl)) (fun _ _ _ h => h) (Or.inl ⟨by rfl, ?_⟩) ?_ ?_
                        rotate_left
                        · intro w'
                          go_simp
                          with_reducible rfl
                        rotate_left
                        · simp only [Act.put, List.setIfInBounds_toArray, List.set_cons_zero, List.set_cons_succ, i64_w, i32_w]
                          rfl
                        refine pure_ (i := 5) (N := some 21) (v := ?_) (a' := ?_) #[true, true, true, true, true, true, false, false, false, false, false, false, false, false, false] rfl rfl (any_of HT_.out (by kernel_rfl)) (fun _ _ _ h => h) (Or.inl ⟨by rfl, ?_⟩) ?_ ?_
                        rotate_left
                        · intro w'
                          go_simp
                          with_reducible rfl
                        rotate_left
                        · simp only [Act.put, List.setIfInBounds_toArray, List.set_cons_zero, List.set_cons_succ, i64_w, i32_w]
                          rfl
                        refine pure_ (i := 6) (N := some 22) (v := ?_) (a' := ?_) #[true, true, true, true, true, true, true, false, false, false, false, false, false, false, false] rfl rfl (any_of HT_.out (by kernel_rfl)) (fun _ _ _ h => h) (Or.inl ⟨by rfl, ?_⟩) ?_ ?_
                        rotate_left
                        · intro w'
                          go_simp
                          with_reducible rfl
                        rotate_left
                        · simp only [Act.put, List.setIfInBounds_toArray, List.set_cons_zero, List.set_cons_succ, i64_w, i32_w]
                          rfl
                        refine pure_ (i := 8) (N := some 24) (v := ?_) (a' := ?_) #[true, true, true, true, true, true, true, false, true, false, false, false, false, false, false] rfl rfl (any_of HT_.out (by kernel_rfl)) (fun _ _ _ h => h) (Or.inl ⟨by rfl, ?_⟩) ?_ ?_
                        rotate_left
                        · intro w'
                          go_simp
                          with_reducible rfl
                        rotate_left
                        · simp only [Act.put, List.setIfInBounds_toArray, List.set_cons_zero, List.set_cons_succ, i64_w, i32_w]
                          rfl
                        refine pure_ (i := 9) (N := some 25) (v := ?_) (a' := ?_) #[true, true, true, true, true, true, true, false, true, true, false, false, false, false, false] rfl rfl (any_of HT_.out (by kernel_rfl)) (fun _ _ _ h => h) (Or.inl ⟨by rfl, ?_⟩) ?_ ?_
                        rotate_left
                        · intro w'
                          go_simp
                          with_reducible rfl
                        rotate_left
                        · simp only [Act.put, List.setIfInBounds_toArray, List.set_cons_zero, List.set_cons_succ, i64_w, i32_w]
                          rfl
                        refine pure_ (i := 10) (N := some 26) (v := ?_) (a' := ?_) #[true, true, true, true, true, true, true, false, true, true, true, false, false, false, false] rfl rfl (any_of HT_.out (by kernel_rfl)) (fun _ _ _ h => h) (Or.inl ⟨by rfl, ?_⟩) ?_ ?_
                        rotate_left
                        · intro w'
                          go_simp
                          with_reducible rfl
                        rotate_left
                        · simp only [Act.put, List.setIfInBounds_toArray, List.set_cons_zero, List.set_cons_succ, i64_w, i32_w]
                          rfl
                        refine pure_ (i := 11) (N := some 27) (v := ?_) (a' := ?_) #[true, true, true, true, true, true, true, false, true, true, true, true, false, false, false] rfl rfl (any_of HT_.out (by kernel_rfl)) (fun _ _ _ h => h) (Or.inl ⟨by rfl, ?_⟩) ?_ ?_
                        rotate_left
                        · intro w'
                          go_simp
                          with_reducible rfl
                        rotate_left
                        · simp only [Act.put, List.setIfInBounds_toArray, List.set_cons_zero, List.set_cons_succ, i64_w, i32_w]
                          rfl
                        refine take_ (i := 7) (N := some 23) (v := ?_) (a' := ?_) #[true, true, true, true, true, true, true, true, true, true, true, true, false, false, false] rfl rfl (take_ofW HT_.out HW_.out (by kernel_rfl)) (fun _ _ _ h => h) (Or.inl ⟨by rfl, ?_⟩) hHeld ?_ ?_
                        rotate_left
                        · rintro w' ⟨s0, s1⟩
                          go_simp
                          with_reducible rfl
                        rotate_left
                        · simp only [Act.put, List.setIfInBounds_toArray, List.set_cons_zero, List.set_cons_succ, i64_w, i32_w]
                          rfl
                        refine take_ (i := 12) (N := some 28) (v := ?_) (a' := ?_) #[true, true, true, true, true, true, true, true, true, true, true, true, true, false, false] rfl rfl (take_ofW HT_.out HW_.out (by kernel_rfl)) (fun _ _ _ h => h) (Or.inl ⟨by rfl, ?_⟩) hHeld ?_ ?_
                        rotate_left
                        · rintro w' ⟨s0, s1⟩
                          go_simp
                          with_reducible rfl
                        rotate_left
                        · simp only [Act.put, List.setIfInBounds_toArray, List.set_cons_zero, List.set_cons_succ, i64_w, i32_w]
                          rfl
                        refine one_ (i := 13) (N := some 29) #[true, true, true, true, true, true, true, true, true, true, true, true, true, true, false] rfl rfl (one_of HT_.out (by kernel_rfl)) (by decide) (fun K hK => ?_)
                        refine goes_ Try.func185 (by kernel_rfl) rfl #[.int .u16 (rd x0_2 x7_2), .int .u16 (rd x0_2 (ji8))] (by rfl) rfl rfl (by (try simp only [List.map_toArray, List.map_cons, List.map_nil]); first | done | (simp only [hji8]; rfl) | rfl | (simp only [List.length_drop, List.length_take]; rfl)) ?_
                        with_reducible refine (impl_Nimber_185.calls (rd x0_2 x7_2) (rd x0_2 (ji8)) false _ A11.out).mono ?_
                        rintro e w' ⟨rfl, ⟨nd, rfl⟩⟩
                        refine ⟨_, rfl, ?_⟩
                        refine hK.out _ _ ⟨hHeld.1, hHeld.2⟩ (fun hHeld => ?_)
                        clear hK K
                        refine norm_ (a' := ?_) ?_ ?_
                        rotate_left
                        · show Act.put _ (some 29) _ = _
                          simp only [Act.put, List.setIfInBounds_toArray, List.set_cons_zero, List.set_cons_succ, i64_w, i32_w]
                          rfl
                        refine pure_ (i := 14) (N := some 30) (v := ?_) (a' := ?_) #[true, true, true, true, true, true, true, true, true, true, true, true, true, true, true] rfl rfl (any_of HT_.out (by kernel_rfl)) (fun _ _ _ h => h) (Or.inl ⟨by rfl, ?_⟩) ?_ ?_
                        rotate_left
                        · intro w'
                          go_simp
                          with_reducible rfl
                        rotate_left
                        · simp only [Act.put, List.setIfInBounds_toArray, List.set_cons_zero, List.set_cons_succ, i64_w, i32_w]
                          rfl
                        refine done_ (done_of HT_.out (by kernel_rfl)) ?_
                        try go_wp2
                        go_roundg k2
                        case measure => have := HK1.out; have := HK2.out; omega
                        case rel => exact ⟨(x0_2), (wrap64 (x6_1 + 1)), (by first | rfl | (simp; done) | (simp [*]; done)), H', ⟨by have := HK1.out; have := HK2.out; omega⟩, ⟨by (with_reducible repeat (first | apply Kd.R_alloc | apply Kd.R_drewN | apply Kd.R_drew)); exact HO_0.out⟩, ⟨by repeat (first | (with_reducible first | exact HK.out | apply Kept.alloc | apply Kept.drewN | apply Kept.drew) | exact HK.out)⟩, ⟨by repeat (first | (with_reducible first | exact HB.out | apply below_alloc | apply pw_below_drewN | apply below_drew1) | exact HB.out)⟩⟩
                    · rw [if_neg c10] at H
                      exact absurd H (by simp)
                  · rw [if_neg c9] at H
                    exact absurd H (by simp)
                · rw [if_neg c7] at H
                  exact absurd H (by simp)
              · rw [if_neg c6] at H
                exact absurd H (by simp)
            · rw [if_neg c5] at H
              have c5b0 : decide (a1 < x7_2) = false := decide_eq_false c5
              clear c5
              have H' := Aside0.mk H
              clear H
              try go_wp2
              have n0_ := Aside0.mk (Kd.R_drew HO_0.out)
              have n1_ := Aside0.mk (Kept.drew HK.out)
              have n2_ := Aside0.mk (below_drew1 HB.out)
              clear HO_0
              clear HK
              clear HB
              have HO_0 := n0_
              have HK := n1_
              have HB := n2_
              clear n0_ n1_ n2_
              refine start_ (n := 15) (S := fun w' => True) (ds := []) #[false, false, false, false, false, false, false, false, false, false, false, false, false, false, false] (by kernel_rfl) rfl rfl trivial (fun hHeld => ?_); refine with_tabW impl_Nimber_179.tab4 impl_Nimber_179.bits4 (fun HT_ HW_ => ?_)
              generalize wr.drew = w22 at HO_0 HK HB hHeld ⊢
              refine pure_ (i := 0) (N := some 16) (v := ?_) (a' := ?_) #[true, false, false, false, false, false, false, false, false, false, false, false, false, false, false] rfl rfl (any_of HT_.out (by kernel_rfl)) (fun _ _ _ h => h) (Or.inl ⟨by rfl, ?_⟩) ?_ ?_
              rotate_left
              · intro w'
                go_simp
                with_reducible rfl
              rotate_left
              · simp only [Act.put, List.setIfInBounds_toArray, List.set_cons_zero, List.set_cons_succ, i64_w, i32_w]
                rfl
              refine pure_ (i := 1) (N := some 17) (v := ?_) (a' := ?_) #[true, true, false, false, false, false, false, false, false, false, false, false, false, false, false] rfl rfl (any_of HT_.out (by kernel_rfl)) (fun _ _ _ h => h) (Or.inl ⟨by rfl, ?_⟩) ?_ ?_
              rotate_left
              · intro w'
                go_simp
                with_reducible rfl
              rotate_left
              · simp only [Act.put, List.setIfInBounds_toArray, List.set_cons_zero, List.set_cons_succ, i64_w, i32_w]
                rfl
              refine pure_ (i := 2) (N := some 18) (v := ?_) (a' := ?_) #[true, true, true, false, false, false, false, false, false, false, false, false, false, false, false] rfl rfl (any_of HT_.out (by kernel_rfl)) (fun _ _ _ h => h) (Or.inl ⟨by rfl, ?_⟩) ?_ ?_
              rotate_left
              · intro w'
                go_simp
                with_reducible rfl
              rotate_left
              · simp only [Act.put, List.setIfInBounds_toArray, List.set_cons_zero, List.set_cons_succ, i64_w, i32_w]
                rfl
              refine pure_ (i := 3) (N := some 19) (v := ?_) (a' := ?_) #[true, true, true, true, false, false, false, false, false, false, false, false, false, false, false] rfl rfl (any_of HT_.out (by kernel_rfl)) (fun _ _ _ h => h) (Or.inl ⟨by rfl, ?_⟩) ?_ ?_
              rotate_left
              · intro w'
                go_simp
                with_reducible rfl
              rotate_left
              · simp only [Act.put, List.setIfInBounds_toArray, List.set_cons_zero, List.set_cons_succ, i64_w, i32_w]
                rfl
              refine pure_ (i := 4) (N := some 20) (v := undef) (a' := ?_) #[true, true, true, true, true, false, false, false, false, false, false, false, false, false, false] rfl rfl (any_of HT_.out (by kernel_rfl)) (fun _ _ _ h => h) (Or.inr ⟨by rfl, rfl⟩) ?_ ?_
              rotate_left
              · simp only [Act.put, List.setIfInBounds_toArray, List.set_cons_zero, List.set_cons_succ, i64_w, i32_w]
                rfl
              refine pure_ (i := 5) (N := some 21) (v := undef) (a' := ?_) #[true, true, true, true, true, true, false, false, false, false, false, false, false, false, false] rfl rfl (any_of HT_.out (by kernel_rfl)) (fun _ _ _ h => h) (Or.inr ⟨by rfl, rfl⟩) ?_ ?_
              rotate_left
              · simp only [Act.put, List.setIfInBounds_toArray, List.set_cons_zero, List.set_cons_succ, i64_w, i32_w]
                rfl
              refine pure_ (i := 6) (N := some 22) (v := undef) (a' := ?_) #[true, true, true, true, true, true, true, false, false, false, false, false, false, false, false] rfl rfl (any_of HT_.out (by kernel_rfl)) (fun _ _ _ h => h) (Or.inr ⟨by rfl, rfl⟩) ?_ ?_
              rotate_left
              · simp only [Act.put, List.setIfInBounds_toArray, List.set_cons_zero, List.set_cons_succ, i64_w, i32_w]
                rfl
              refine pure_ (i := 7) (N := some 23) (v := undef) (a' := ?_) #[true, true, true, true, true, true, true, true, false, false, false, false, false, false, false] rfl rfl (any_of HT_.out (by kernel_rfl)) (fun _ _ _ h => h) (Or.inr ⟨by rfl, rfl⟩) ?_ ?_
              rotate_left
              · simp only [Act.put, List.setIfInBounds_toArray, List.set_cons_zero, List.set_cons_succ, i64_w, i32_w]
                rfl
              refine pure_ (i := 8) (N := some 24) (v := undef) (a' := ?_) #[true, true, true, true, true, true, true, true, true, false, false, false, false, false, false] rfl rfl (any_of HT_.out (by kernel_rfl)) (fun _ _ _ h => h) (Or.inr ⟨by rfl, rfl⟩) ?_ ?_
              rotate_left
              · simp only [Act.put, List.setIfInBounds_toArray, List.set_cons_zero, List.set_cons_succ, i64_w, i32_w]
                rfl
              refine pure_ (i := 9) (N := some 25) (v := undef) (a' := ?_) #[true, true, true, true, true, true, true, true, true, true, false, false, false, false, false] rfl rfl (any_of HT_.out (by kernel_rfl)) (fun _ _ _ h => h) (Or.inr ⟨by rfl, rfl⟩) ?_ ?_
              rotate_left
              · simp only [Act.put, List.setIfInBounds_toArray, List.set_cons_zero, List.set_cons_succ, i64_w, i32_w]
                rfl
              refine pure_ (i := 10) (N := some 26) (v := undef) (a' := ?_) #[true, true, true, true, true, true, true, true, true, true, true, false, false, false, false] rfl rfl (any_of HT_.out (by kernel_rfl)) (fun _ _ _ h => h) (Or.inr ⟨by rfl, rfl⟩) ?_ ?_
              rotate_left
              · simp only [Act.put, List.setIfInBounds_toArray, List.set_cons_zero, List.set_cons_succ, i64_w, i32_w]
                rfl
              refine pure_ (i := 11) (N := some 27) (v := undef) (a' := ?_) #[true, true, true, true, true, true, true, true, true, true, true, true, false, false, false] rfl rfl (any_of HT_.out (by kernel_rfl)) (fun _ _ _ h => h) (Or.inr ⟨by rfl, rfl⟩) ?_ ?_
              rotate_left
              · simp only [Act.put, List.setIfInBounds_toArray, List.set_cons_zero, List.set_cons_succ, i64_w, i32_w]
                rfl
              refine pure_ (i := 12) (N := some 28) (v := undef) (a' := ?_) #[true, true, true, true, true, true, true, true, true, true, true, true, true, false, false] rfl rfl (any_of HT_.out (by kernel_rfl)) (fun _ _ _ h => h) (Or.inr ⟨by rfl, rfl⟩) ?_ ?_
              rotate_left
              · simp only [Act.put, List.setIfInBounds_toArray, List.set_cons_zero, List.set_cons_succ, i64_w, i32_w]
                rfl
              refine pure_ (i := 13) (N := some 29) (v := undef) (a' := ?_) #[true, true, true, true, true, true, true, true, true, true, true, true, true, true, false] rfl rfl (any_of HT_.out (by kernel_rfl)) (fun _ _ _ h => h) (Or.inr ⟨by rfl, rfl⟩) ?_ ?_
              rotate_left
              · simp only [Act.put, List.setIfInBounds_toArray, List.set_cons_zero, List.set_cons_succ, i64_w, i32_w]
                rfl
              refine pure_ (i := 14) (N := some 30) (v := ?_) (a' := ?_) #[true, true, true, true, true, true, true, true, true, true, true, true, true, true, true] rfl rfl (any_of HT_.out (by kernel_rfl)) (fun _ _ _ h => h) (Or.inl ⟨by rfl, ?_⟩) ?_ ?_
              rotate_left
              · intro w'
                go_simp
                with_reducible rfl
              rotate_left
              · simp only [Act.put, List.setIfInBounds_toArray, List.set_cons_zero, List.set_cons_succ, i64_w, i32_w]
                rfl
              refine done_ (done_of HT_.out (by kernel_rfl)) ?_
              try go_wp2
              go_roundg k2
              case measure => have := HK1.out; have := HK2.out; omega
              case rel => exact ⟨(x0_2), (wrap64 (x6_1 + 1)), (by first | rfl | (simp; done) | (simp [*]; done)), H', ⟨by have := HK1.out; have := HK2.out; omega⟩, ⟨by (with_reducible repeat (first | apply Kd.R_alloc | apply Kd.R_drewN | apply Kd.R_drew)); exact HO_0.out⟩, ⟨by repeat (first | (with_reducible first | exact HK.out | apply Kept.alloc | apply Kept.drewN | apply Kept.drew) | exact HK.out)⟩, ⟨by repeat (first | (with_reducible first | exact HB.out | apply below_alloc | apply pw_below_drewN | apply below_drew1) | exact HB.out)⟩⟩
      · rw [if_neg c4] at H
        have c4b0 : decide (x6_1 < a2) = false := decide_eq_false c4
        clear c4
        obtain rfl := Option.some.inj H
        go_wp2
        first | go_end0 | ((try simp only [Exit.inBlock, Exit.then]); refine bodyPost_ret (results_none rfl _ _ _) rfl ?_)
        exact ⟨by first | rfl | (simp [errW_none, errW_some] <;> rfl) | (simp [*, errW_none, errW_some] <;> rfl), by (with_reducible repeat (first | apply Kd.R_alloc | apply Kd.R_drewN | apply Kd.R_drew)); exact HO_0.out, by repeat (first | (with_reducible first | exact HB.out | apply below_alloc | apply pw_below_drewN | apply below_drew1) | exact HB.out), by repeat (first | (with_reducible first | exact HK.out | apply Kept.alloc | apply Kept.drewN | apply Kept.drew) | exact HK.out)⟩
end Go.Proofs.Ytadfobooofkelaa.X

-- Laid by wip/xprint.py of this session (the kit's print program, with some contracts given by hand). Not trusted: Lean checks it.
namespace Go.Proofs.Ytadfobooofkelaa.X
open Go.RowKit Go.Proofs.YtadfobooofkelaaW.PrintWords Go.Proofs.YtadfobooofkelaaW.PrintLast Go.Proofs.YtadfobooofkelaaW.PrintMore
attribute [local go_sem] max2_int min2_int max_two min_two max_three min_three max_four min_four
set_option linter.unusedVariables false
set_option linter.unusedSimpArgs false
def impl_Nimber_171.f (k : Nat) (l0 : List Int) (a1 : Int) (a2 : Int) (a3 : Int) : Option (List Int) := if 0 ≤ a1 ∧ a1 ≤ a2 ∧ a2 ≤ 1000000 ∧ a2 - a1 ≤ 12 then impl_Nimber_179.f k l0 a1 a2 else none
set_option maxHeartbeats 8000000 in
set_option maxRecDepth 100000 in
theorem impl_Nimber_171.calls (k : Nat) (P0_ : Nat → Prop) (u9000_ : Value) (l0 : List Int) (a1 : Int) (a2 : Int) (a3 : Int) (r : List Int) (w0 w : World) (hB : Below w0.heap.size w0 w) (ho0 : Kd.R (Kd.int .u16) 36 w w0.heap.size P0_ u9000_ l0) (h : impl_Nimber_171.f k l0 a1 a2 a3 = some r) :
    Calls Try.prog 171 #[u9000_, .int .i64 a1, .int .i64 a2, .int .i64 a3] w fun e w' => e = .returned (.tuple #[]) ∧ Kd.R (Kd.int .u16) 36 w' w0.heap.size (fun k_ => (P0_ k_ ∨ w.heap.size ≤ k_)) u9000_ r ∧ Below w0.heap.size w0 w' ∧ Kept w w' (fun k_ => P0_ k_) := by
  unfold impl_Nimber_171.f at h
  by_cases hc : 0 ≤ a1 ∧ a1 ≤ a2 ∧ a2 ≤ 1000000 ∧ a2 - a1 ≤ 12
  · rw [if_pos hc] at h
    obtain ⟨h1, h2, h3, h4⟩ := hc
    have HC := Aside0.mk (impl_Nimber_179.calls k P0_ u9000_ l0 a1 a2 r w0 w hB ho0 h)
    clear h ho0 hB
    go_enter Try.func171, Try.ntmps171
    go_wp2
    have e0 : wrap64 (a2 - a1) = a2 - a1 := by unfold wrap64; omega
    have e0w : IntKind.i64.wrap (a2 - a1) = a2 - a1 := (i64_w _).trans e0
    have e1 : decide (a2 - a1 ≤ 12) = true := decide_eq_true h4
    go_loopg [1, 2] 1 (fun gq v1 v2 w' => v1 = .int .i64 a1 ∧ v2 = .int .i64 a2 ∧ w' = w)
    case atStart => exact ⟨rfl, rfl, rfl⟩
    case round =>
      obtain ⟨rfl, rfl, rfl⟩ := hrel
      go_wp2_with (go_at_call 179; refine HC.out.mono ?_; rintro e w2 ⟨rfl, hr2, hb2, hk2⟩)
      ((try simp only [Exit.inBlock, Exit.then]); refine bodyPost_ret (results_none rfl _ _ _) rfl ?_)
      exact ⟨rfl, hr2, hb2, hk2⟩
  · rw [if_neg hc] at h
    cases h
end Go.Proofs.Ytadfobooofkelaa.X

-- Laid by wip/xprint.py of this session (the kit's print program, with some contracts given by hand). Not trusted: Lean checks it.
namespace Go.Proofs.Ytadfobooofkelaa.X
open Go.RowKit Go.Proofs.YtadfobooofkelaaW.PrintWords Go.Proofs.YtadfobooofkelaaW.PrintLast Go.Proofs.YtadfobooofkelaaW.PrintMore
attribute [local go_sem] max2_int min2_int max_two min_two max_three min_three max_four min_four
set_option linter.unusedVariables false
set_option linter.unusedSimpArgs false
def impl_Nimber_145.f (k : Nat) (l0 : List Int) : Option (List Int) := (bits_Len.f (IntKind.u64.wrap ((l0.length : Int)))).bind fun t101 => ((impl_Nimber_171.f k l0 0 (l0.length : Int) t101).bind fun t102 => (some t102))
set_option maxHeartbeats 8000000 in
set_option maxRecDepth 100000 in
theorem impl_Nimber_145.calls (k : Nat) (P0_ : Nat → Prop) (u9000_ : Value) (l0 : List Int) (r : List Int) (w0 w : World) (hB : Below w0.heap.size w0 w) (ho0 : Kd.R (Kd.int .u16) 36 w w0.heap.size P0_ u9000_ l0) (h : impl_Nimber_145.f k l0 = some r) :
    Calls Try.prog 145 #[u9000_] w fun e w' => e = .returned (.tuple #[]) ∧ Kd.R (Kd.int .u16) 36 w' w0.heap.size (fun k_ => (P0_ k_ ∨ w.heap.size ≤ k_)) u9000_ r ∧ Below w0.heap.size w0 w' ∧ Kept w w' (fun k_ => P0_ k_) := by
  have HO0 := Aside0.mk (show Kd.R (Kd.int .u16) 36 w w0.heap.size (fun k_ => (P0_ k_ ∨ w.heap.size ≤ k_)) u9000_ l0 from Kd.R_mono ho0 (fun k_ hk => (.inl hk)))
  have HK := Aside0.mk (Kept.refl w (fun k_ => P0_ k_))
  have HW0 := Aside0.mk hB.size
  have HB := Aside0.mk hB
  clear hB
  have H : ((bits_Len.f (IntKind.u64.wrap ((l0.length : Int)))).bind fun t101 => ((impl_Nimber_171.f k l0 0 (l0.length : Int) t101).bind fun t102 => (some t102))) = some r := h
  clear h
  replace H := Option.bind_eq_some_iff.mp H
  obtain ⟨t101, A20, H⟩ := H
  replace H : ((impl_Nimber_171.f k l0 0 (l0.length : Int) t101).bind fun t102 => (some t102)) = some r := H
  have A2 := Aside0.mk A20
  clear A20
  replace H := Option.bind_eq_some_iff.mp H
  obtain ⟨t102, A30, H⟩ := H
  replace H : (some t102) = some r := H
  have A3 := Aside0.mk A30
  clear A30
  obtain rfl := Option.some.inj H
  obtain ⟨Ao4, co4, eo4⟩ := Kd.R_slice HO0.out
  subst eo4
  go_enter Try.func145, Try.ntmps145
  go_wp2_with (first | ((with_reducible refine gate_callee (f := 172) rfl ?_); refine goesL_ (some 9) rfl rfl Try.func172 (by kernel_rfl) rfl #[.int .u64 (IntKind.u64.wrap ((l0.length : Int)))] rfl (by (try simp only [List.map_toArray, List.map_cons, List.map_nil]); first | done | rfl | (simp only [List.length_drop, List.length_take]; rfl)) ?_; (with_reducible refine (bits_Len.calls (IntKind.u64.wrap ((l0.length : Int))) t101 _ A2.out).mono ?_); rintro e w' ⟨rfl, ⟨nd, rfl⟩⟩; refine ⟨_, rfl, ?_⟩) | ((with_reducible refine gate_callee (f := 171) rfl ?_); refine goesL_ (some 10) rfl rfl Try.func171 (by kernel_rfl) rfl #[.slice Ao4 l0.length co4, .int .i64 0, .int .i64 (l0.length : Int), .int .i64 t101] rfl (by (try simp only [List.map_toArray, List.map_cons, List.map_nil]); first | done | rfl | (simp only [List.length_drop, List.length_take]; rfl)) ?_; (with_reducible refine (impl_Nimber_171.calls k (fun k_ => some k_ = (.slice Ao4 l0.length co4 : Value).ownBlock) (.slice Ao4 l0.length co4) l0 0 (l0.length : Int) t101 t102 w0 _ ?side1 ?side2 A3.out).mono ?_); (case side1 => repeat (first | (with_reducible first | exact HB.out | apply below_alloc | apply pw_below_drewN | apply below_drew1) | exact HB.out)); (case side2 => exact Kd.R_tight rfl HO0.out); rintro e w5 ⟨rfl, hy0, hb, hkp⟩; refine ⟨_, rfl, ?_⟩; have n0_ := Aside0.mk (Kd.R_reok rfl hy0 (fun k_ e_ => HO0.out.1 k_ e_)); have n1_ := Aside0.mk (Kept.then_ (S := (fun k_ => P0_ k_)) (by repeat (first | (with_reducible first | exact HK.out | apply Kept.alloc | apply Kept.drewN | apply Kept.drew) | exact HK.out)) hkp (fun k_ hs_ => (fun e_ => (HO0.out.1 k_ e_.symm)) hs_)); have n2_ := Aside0.mk (hb); clear HO0; clear HK; clear HB; have HO0 := n0_; have HK := n1_; have HB := n2_; clear n0_ n1_ n2_; (try clear hb); (try clear hkp); (try clear hy0)))
  first | go_end0 | ((try simp only [Exit.inBlock, Exit.then]); refine bodyPost_ret (results_none rfl _ _ _) rfl ?_)
  exact ⟨by first | rfl | (simp [errW_none, errW_some] <;> rfl) | (simp [*, errW_none, errW_some] <;> rfl), by (with_reducible repeat (first | apply Kd.R_alloc | apply Kd.R_drewN | apply Kd.R_drew)); exact HO0.out, by repeat (first | (with_reducible first | exact HB.out | apply below_alloc | apply pw_below_drewN | apply below_drew1) | exact HB.out), by repeat (first | (with_reducible first | exact HK.out | apply Kept.alloc | apply Kept.drewN | apply Kept.drew) | exact HK.out)⟩
end Go.Proofs.Ytadfobooofkelaa.X

-- Laid by wip/xprint.py of this session (the kit's print program, with some contracts given by hand). Not trusted: Lean checks it.
namespace Go.Proofs.Ytadfobooofkelaa.X
open Go.RowKit Go.Proofs.YtadfobooofkelaaW.PrintWords Go.Proofs.YtadfobooofkelaaW.PrintLast Go.Proofs.YtadfobooofkelaaW.PrintMore
attribute [local go_sem] max2_int min2_int max_two min_two max_three min_three max_four min_four
set_option linter.unusedVariables false
set_option linter.unusedSimpArgs false
def impl_QuadraticRoots.f (k : Nat) (a0 : Int) (a1 : Int) : Option (List Int) := if a0 = 0 then ((impl_root.f k a1).bind fun t101 => (some (([t101] : List Int)))) else ((impl_times.f k a0 a0).bind fun t105 => ((impl_inverse.f k t105).bind fun t106 => ((impl_times.f k a1 t106).bind fun t107 => ((impl_halfRoot.f k t107).bind fun bt108 => (if bt108.2 = true then ((impl_times.f k a0 bt108.1).bind fun t110 => ((impl_times.f k a0 (Go.bits .xor .u16 bt108.1 1)).bind fun t111 => ((impl_Nimber_145.f k (([t110, t111] : List Int))).bind fun t115 => (some t115)))) else (some (([] : List Int))))))))
set_option maxHeartbeats 8000000 in
set_option maxRecDepth 100000 in
theorem impl_QuadraticRoots.calls (k : Nat) (a0 : Int) (a1 : Int) (r : List Int) (w : World) (h : impl_QuadraticRoots.f k a0 a1 = some r) :
    Calls Try.prog 70 #[.int .u16 a0, .int .u16 a1] w fun e w' => ∃ v0_ : Value, e = .returned (v0_) ∧ Kd.R (Kd.int .u16) 36 w' w.heap.size (fun _ => True) v0_ r ∧ Below w.heap.size w w' := by
  have HB := Aside0.mk (Below.refl w.heap.size w)
  have H : (if a0 = 0 then ((impl_root.f k a1).bind fun t101 => (some (([t101] : List Int)))) else ((impl_times.f k a0 a0).bind fun t105 => ((impl_inverse.f k t105).bind fun t106 => ((impl_times.f k a1 t106).bind fun t107 => ((impl_halfRoot.f k t107).bind fun bt108 => (if bt108.2 = true then ((impl_times.f k a0 bt108.1).bind fun t110 => ((impl_times.f k a0 (Go.bits .xor .u16 bt108.1 1)).bind fun t111 => ((impl_Nimber_145.f k (([t110, t111] : List Int))).bind fun t115 => (some t115)))) else (some (([] : List Int))))))))) = some r := h
  clear h
  by_cases c3 : a0 = 0
  · rw [if_pos c3] at H
    have c3b0 : (a0 == 0) = true := beq_iff_eq.mpr c3
    have c3b1 : (a0 != 0) = false := bne_eq_false_iff_eq.mpr c3
    clear c3
    replace H := Option.bind_eq_some_iff.mp H
    obtain ⟨t101, A40, H⟩ := H
    replace H : (some (([t101] : List Int))) = some r := H
    have A4 := Aside0.mk A40
    clear A40
    obtain ⟨y102, hy102⟩ : ∃ y_ : List Int, y_ = (([t101] : List Int)) := ⟨_, rfl⟩
    replace H : (some y102) = some r := by first | (rw [hy102]; with_reducible exact H) | (have H2_ := (Option.bind_some _ _).symm.trans H; rw [hy102]; with_reducible exact H2_) | (have H2_ := (Option.bind_some _ _).symm.trans H; with_reducible exact H2_) | with_reducible exact H | (rw [hy102]; exact H) | exact H
    have Ny102 := Aside0.mk hy102
    clear hy102
    obtain rfl := Option.some.inj H
    go_enter Try.func70, Try.ntmps70
    go_wp2_with (first | ((with_reducible refine gate_callee (f := 130) rfl ?_); refine goesL_ (some 11) rfl rfl Try.func130 (by kernel_rfl) rfl #[.int .u16 a1] rfl (by (try simp only [List.map_toArray, List.map_cons, List.map_nil]); first | done | rfl | (simp only [List.length_drop, List.length_take]; rfl)) ?_; (with_reducible refine (impl_root.calls k a1 t101 _ A4.out).mono ?_); rintro e w' ⟨rfl, ⟨nd, rfl⟩⟩; refine ⟨_, rfl, ?_⟩) | ((with_reducible refine gate_dst (N := 12) rfl ?_); refine Kd.R_lit (Kd.int .u16) _ 36 ?hg (N := 12) ?hd (xs := ([t101] : List Int)) (inner := [.int .u16 t101]) (ok := fun _ => True) (okp := fun _ => True) ?hr ?hp (fun _ hk => hk) trivial (Below.refl _ _) (Nat.le_refl _) (by simp) ?_; (case hd => rfl); (case hg => rfl); (case hr => first | (go_simp; done) | (go_simp; rfl)); (case hp => exact (Reps.one (show Kd.M (Kd.int .u16) _ _ _ t101 [.int .u16 t101] from rfl) (Reps.none _ _))); intro v103 w5 ho6 hb hg_ hnew_; clear hg_ hnew_; (first | rw [← Ny102.out] at ho6 | (simp only [Int.reduceToNat] at ho6; rw [← Ny102.out] at ho6)); have n0_ := Aside0.mk (Kd.R_lower ho6 (below_size (by repeat (first | (with_reducible first | exact HB.out | apply below_alloc | apply pw_below_drewN | apply below_drew1) | exact HB.out)))); have n1_ := Aside0.mk (below_step (by repeat (first | (with_reducible first | exact HB.out | apply below_alloc | apply pw_below_drewN | apply below_drew1) | exact HB.out)) hb); clear HB; have HO104 := n0_; have HB := n1_; clear n0_ n1_; clear hb ho6))
    go_ret
    exact ⟨_, by first | rfl | (simp [errW_none, errW_some] <;> rfl) | (simp [*, errW_none, errW_some] <;> rfl), by (with_reducible repeat (first | apply Kd.R_alloc | apply Kd.R_drewN | apply Kd.R_drew)); exact HO104.out, by repeat (first | (with_reducible first | exact HB.out | apply below_alloc | apply pw_below_drewN | apply below_drew1) | exact HB.out)⟩
  · rw [if_neg c3] at H
    have c3b0 : (a0 == 0) = false := beq_eq_false_iff_ne.mpr c3
    have c3b1 : (a0 != 0) = true := bne_iff_ne.mpr c3
    replace H := Option.bind_eq_some_iff.mp H
    obtain ⟨t105, A70, H⟩ := H
    replace H : ((impl_inverse.f k t105).bind fun t106 => ((impl_times.f k a1 t106).bind fun t107 => ((impl_halfRoot.f k t107).bind fun bt108 => (if bt108.2 = true then ((impl_times.f k a0 bt108.1).bind fun t110 => ((impl_times.f k a0 (Go.bits .xor .u16 bt108.1 1)).bind fun t111 => ((impl_Nimber_145.f k (([t110, t111] : List Int))).bind fun t115 => (some t115)))) else (some (([] : List Int))))))) = some r := H
    have A7 := Aside0.mk A70
    clear A70
    replace H := Option.bind_eq_some_iff.mp H
    obtain ⟨t106, A80, H⟩ := H
    replace H : ((impl_times.f k a1 t106).bind fun t107 => ((impl_halfRoot.f k t107).bind fun bt108 => (if bt108.2 = true then ((impl_times.f k a0 bt108.1).bind fun t110 => ((impl_times.f k a0 (Go.bits .xor .u16 bt108.1 1)).bind fun t111 => ((impl_Nimber_145.f k (([t110, t111] : List Int))).bind fun t115 => (some t115)))) else (some (([] : List Int)))))) = some r := H
    have A8 := Aside0.mk A80
    clear A80
    replace H := Option.bind_eq_some_iff.mp H
    obtain ⟨t107, A90, H⟩ := H
    replace H : ((impl_halfRoot.f k t107).bind fun bt108 => (if bt108.2 = true then ((impl_times.f k a0 bt108.1).bind fun t110 => ((impl_times.f k a0 (Go.bits .xor .u16 bt108.1 1)).bind fun t111 => ((impl_Nimber_145.f k (([t110, t111] : List Int))).bind fun t115 => (some t115)))) else (some (([] : List Int))))) = some r := H
    have A9 := Aside0.mk A90
    clear A90
    replace H := Option.bind_eq_some_iff.mp H
    obtain ⟨⟨t108, t109⟩, A100, H⟩ := H
    replace H : (if t109 = true then ((impl_times.f k a0 t108).bind fun t110 => ((impl_times.f k a0 (Go.bits .xor .u16 t108 1)).bind fun t111 => ((impl_Nimber_145.f k (([t110, t111] : List Int))).bind fun t115 => (some t115)))) else (some (([] : List Int)))) = some r := H
    have A10 := Aside0.mk A100
    clear A100
    by_cases c11 : t109 = true
    · subst c11
      have H1 : ((impl_times.f k a0 t108).bind fun t110 => ((impl_times.f k a0 (Go.bits .xor .u16 t108 1)).bind fun t111 => ((impl_Nimber_145.f k (([t110, t111] : List Int))).bind fun t115 => (some t115)))) = some r := by rw [if_pos rfl] at H; exact H
      clear H
      have H := H1
      clear H1
      replace H := Option.bind_eq_some_iff.mp H
      obtain ⟨t110, A120, H⟩ := H
      replace H : ((impl_times.f k a0 (Go.bits .xor .u16 t108 1)).bind fun t111 => ((impl_Nimber_145.f k (([t110, t111] : List Int))).bind fun t115 => (some t115))) = some r := H
      have A12 := Aside0.mk A120
      clear A120
      replace H := Option.bind_eq_some_iff.mp H
      obtain ⟨t111, A130, H⟩ := H
      replace H : ((impl_Nimber_145.f k (([t110, t111] : List Int))).bind fun t115 => (some t115)) = some r := H
      have A13 := Aside0.mk A130
      clear A130
      obtain ⟨y112, hy112⟩ : ∃ y_ : List Int, y_ = (([t110, t111] : List Int)) := ⟨_, rfl⟩
      replace H : ((impl_Nimber_145.f k y112).bind fun t115 => (some t115)) = some r := by first | (rw [hy112]; with_reducible exact H) | (have H2_ := (Option.bind_some _ _).symm.trans H; rw [hy112]; with_reducible exact H2_) | (have H2_ := (Option.bind_some _ _).symm.trans H; with_reducible exact H2_) | with_reducible exact H | (rw [hy112]; exact H) | exact H
      have Ny112 := Aside0.mk hy112
      clear hy112
      replace H := Option.bind_eq_some_iff.mp H
      obtain ⟨t115, A140, H⟩ := H
      replace H : (some t115) = some r := H
      have A14 := Aside0.mk A140
      clear A140
      obtain rfl := Option.some.inj H
      go_enter Try.func70, Try.ntmps70
      go_wp2_with (first | ((with_reducible refine gate_callee (f := 90) rfl ?_); refine goesL_ (some 17) rfl rfl Try.func90 (by kernel_rfl) rfl #[.int .u16 a0, .int .u16 a0] rfl (by (try simp only [List.map_toArray, List.map_cons, List.map_nil]); first | done | rfl | (simp only [List.length_drop, List.length_take]; rfl)) ?_; (with_reducible refine (impl_times.calls k a0 a0 t105 _ A7.out).mono ?_); rintro e w' ⟨rfl, ⟨nd, rfl⟩⟩; refine ⟨_, rfl, ?_⟩) | ((with_reducible refine gate_callee (f := 92) rfl ?_); refine goesL_ (some 18) rfl rfl Try.func92 (by kernel_rfl) rfl #[.int .u16 t105] rfl (by (try simp only [List.map_toArray, List.map_cons, List.map_nil]); first | done | rfl | (simp only [List.length_drop, List.length_take]; rfl)) ?_; (with_reducible refine (impl_inverse.calls k t105 t106 _ A8.out).mono ?_); rintro e w' ⟨rfl, ⟨nd, rfl⟩⟩; refine ⟨_, rfl, ?_⟩) | ((with_reducible refine gate_callee (f := 90) rfl ?_); refine goesL_ (some 19) rfl rfl Try.func90 (by kernel_rfl) rfl #[.int .u16 a1, .int .u16 t106] rfl (by (try simp only [List.map_toArray, List.map_cons, List.map_nil]); first | done | rfl | (simp only [List.length_drop, List.length_take]; rfl)) ?_; (with_reducible refine (impl_times.calls k a1 t106 t107 _ A9.out).mono ?_); rintro e w' ⟨rfl, ⟨nd, rfl⟩⟩; refine ⟨_, rfl, ?_⟩) | ((with_reducible refine gate_callee (f := 98) rfl ?_); refine goesL_ (some 20) rfl rfl Try.func98 (by kernel_rfl) rfl #[.int .u16 t107] rfl (by (try simp only [List.map_toArray, List.map_cons, List.map_nil]); first | done | rfl | (simp only [List.length_drop, List.length_take]; rfl)) ?_; (with_reducible refine (impl_halfRoot.calls k t107 t108 true _ A10.out).mono ?_); rintro e w15 ⟨rfl, hb⟩; refine ⟨_, rfl, ?_⟩; have n0_ := Aside0.mk (below_step (by repeat (first | (with_reducible first | exact HB.out | apply below_alloc | apply pw_below_drewN | apply below_drew1) | exact HB.out)) hb); clear HB; have HB := n0_; clear n0_; (try clear hb); (try clear hb2); (try clear hk); (try clear hi)) | ((with_reducible refine gate_callee (f := 90) rfl ?_); refine goesL_ (some 28) rfl rfl Try.func90 (by kernel_rfl) rfl #[.int .u16 a0, .int .u16 t108] rfl (by (try simp only [List.map_toArray, List.map_cons, List.map_nil]); first | done | rfl | (simp only [List.length_drop, List.length_take]; rfl)) ?_; (with_reducible refine (impl_times.calls k a0 t108 t110 _ A12.out).mono ?_); rintro e w' ⟨rfl, ⟨nd, rfl⟩⟩; refine ⟨_, rfl, ?_⟩) | ((with_reducible refine gate_callee (f := 90) rfl ?_); refine goesL_ (some 32) rfl rfl Try.func90 (by kernel_rfl) rfl #[.int .u16 a0, .int .u16 (Go.bits .xor .u16 t108 1)] rfl (by (try simp only [List.map_toArray, List.map_cons, List.map_nil]); first | done | rfl | (simp only [List.length_drop, List.length_take]; rfl)) ?_; (with_reducible refine (impl_times.calls k a0 (Go.bits .xor .u16 t108 1) t111 _ A13.out).mono ?_); rintro e w' ⟨rfl, ⟨nd, rfl⟩⟩; refine ⟨_, rfl, ?_⟩) | ((with_reducible refine gate_dst (N := 33) rfl ?_); refine Kd.R_lit (Kd.int .u16) _ 36 ?hg (N := 33) ?hd (xs := ([t110, t111] : List Int)) (inner := [.int .u16 t110, .int .u16 t111]) (ok := fun _ => True) (okp := fun _ => True) ?hr ?hp (fun _ hk => hk) trivial (Below.refl _ _) (Nat.le_refl _) (by simp) ?_; (case hd => rfl); (case hg => rfl); (case hr => first | (go_simp; done) | (go_simp; rfl)); (case hp => exact (Reps.one (show Kd.M (Kd.int .u16) _ _ _ t110 [.int .u16 t110] from rfl) (Reps.one (show Kd.M (Kd.int .u16) _ _ _ t111 [.int .u16 t111] from rfl) (Reps.none _ _)))); intro v113 w16 ho17 hb hg_ hnew_; clear hg_ hnew_; (first | rw [← Ny112.out] at ho17 | (simp only [Int.reduceToNat] at ho17; rw [← Ny112.out] at ho17)); have n0_ := Aside0.mk (Kd.R_lower ho17 (below_size (by repeat (first | (with_reducible first | exact HB.out | apply below_alloc | apply pw_below_drewN | apply below_drew1) | exact HB.out)))); have n1_ := Aside0.mk (below_step (by repeat (first | (with_reducible first | exact HB.out | apply below_alloc | apply pw_below_drewN | apply below_drew1) | exact HB.out)) hb); clear HB; have HO114 := n0_; have HB := n1_; clear n0_ n1_; clear hb ho17; obtain ⟨Ao18, co18, eo18⟩ := Kd.R_slice HO114.out; subst eo18) | ((with_reducible refine gate_callee (f := 145) rfl ?_); refine goesL_ (some 35) rfl rfl Try.func145 (by kernel_rfl) rfl #[.slice Ao18 y112.length co18] rfl (by (try simp only [List.map_toArray, List.map_cons, List.map_nil]); first | done | rfl | (simp only [List.length_drop, List.length_take]; rfl)) ?_; (with_reducible refine (impl_Nimber_145.calls k (fun k_ => some k_ = (.slice Ao18 y112.length co18 : Value).ownBlock) (.slice Ao18 y112.length co18) y112 t115 w _ ?side1 ?side2 A14.out).mono ?_); (case side1 => repeat (first | (with_reducible first | exact HB.out | apply below_alloc | apply pw_below_drewN | apply below_drew1) | exact HB.out)); (case side2 => exact Kd.R_tight rfl HO114.out); rintro e w19 ⟨rfl, hy0, hb, hkp⟩; refine ⟨_, rfl, ?_⟩; have n0_ := Aside0.mk (Kd.R_reok rfl hy0 (fun k_ e_ => HO114.out.1 k_ e_)); have n1_ := Aside0.mk (hb); clear HO114; clear HB; have HO114 := n0_; have HB := n1_; clear n0_ n1_; (try clear hb); (try clear hkp); (try clear hy0)))
      go_ret
      exact ⟨_, by first | rfl | (simp [errW_none, errW_some] <;> rfl) | (simp [*, errW_none, errW_some] <;> rfl), by (with_reducible repeat (first | apply Kd.R_alloc | apply Kd.R_drewN | apply Kd.R_drew)); exact HO114.out, by repeat (first | (with_reducible first | exact HB.out | apply below_alloc | apply pw_below_drewN | apply below_drew1) | exact HB.out)⟩
    · replace c11 := Bool.eq_false_iff.mpr c11
      subst c11
      have H1 : (some (([] : List Int))) = some r := by rw [if_neg (show ¬ (false = true) by decide)] at H; exact H
      clear H
      have H := H1
      clear H1
      obtain ⟨y116, hy116⟩ : ∃ y_ : List Int, y_ = (([] : List Int)) := ⟨_, rfl⟩
      replace H : (some y116) = some r := by first | (rw [hy116]; with_reducible exact H) | (have H2_ := (Option.bind_some _ _).symm.trans H; rw [hy116]; with_reducible exact H2_) | (have H2_ := (Option.bind_some _ _).symm.trans H; with_reducible exact H2_) | with_reducible exact H | (rw [hy116]; exact H) | exact H
      have Ny116 := Aside0.mk hy116
      clear hy116
      obtain rfl := Option.some.inj H
      go_enter Try.func70, Try.ntmps70
      go_wp2_with (first | ((with_reducible refine gate_callee (f := 90) rfl ?_); refine goesL_ (some 17) rfl rfl Try.func90 (by kernel_rfl) rfl #[.int .u16 a0, .int .u16 a0] rfl (by (try simp only [List.map_toArray, List.map_cons, List.map_nil]); first | done | rfl | (simp only [List.length_drop, List.length_take]; rfl)) ?_; (with_reducible refine (impl_times.calls k a0 a0 t105 _ A7.out).mono ?_); rintro e w' ⟨rfl, ⟨nd, rfl⟩⟩; refine ⟨_, rfl, ?_⟩) | ((with_reducible refine gate_callee (f := 92) rfl ?_); refine goesL_ (some 18) rfl rfl Try.func92 (by kernel_rfl) rfl #[.int .u16 t105] rfl (by (try simp only [List.map_toArray, List.map_cons, List.map_nil]); first | done | rfl | (simp only [List.length_drop, List.length_take]; rfl)) ?_; (with_reducible refine (impl_inverse.calls k t105 t106 _ A8.out).mono ?_); rintro e w' ⟨rfl, ⟨nd, rfl⟩⟩; refine ⟨_, rfl, ?_⟩) | ((with_reducible refine gate_callee (f := 90) rfl ?_); refine goesL_ (some 19) rfl rfl Try.func90 (by kernel_rfl) rfl #[.int .u16 a1, .int .u16 t106] rfl (by (try simp only [List.map_toArray, List.map_cons, List.map_nil]); first | done | rfl | (simp only [List.length_drop, List.length_take]; rfl)) ?_; (with_reducible refine (impl_times.calls k a1 t106 t107 _ A9.out).mono ?_); rintro e w' ⟨rfl, ⟨nd, rfl⟩⟩; refine ⟨_, rfl, ?_⟩) | ((with_reducible refine gate_callee (f := 98) rfl ?_); refine goesL_ (some 20) rfl rfl Try.func98 (by kernel_rfl) rfl #[.int .u16 t107] rfl (by (try simp only [List.map_toArray, List.map_cons, List.map_nil]); first | done | rfl | (simp only [List.length_drop, List.length_take]; rfl)) ?_; (with_reducible refine (impl_halfRoot.calls k t107 t108 false _ A10.out).mono ?_); rintro e w20 ⟨rfl, hb⟩; refine ⟨_, rfl, ?_⟩; have n0_ := Aside0.mk (below_step (by repeat (first | (with_reducible first | exact HB.out | apply below_alloc | apply pw_below_drewN | apply below_drew1) | exact HB.out)) hb); clear HB; have HB := n0_; clear n0_; (try clear hb); (try clear hb2); (try clear hk); (try clear hi)) | ((with_reducible refine gate_dst (N := 25) rfl ?_); refine Kd.R_lit (Kd.int .u16) _ 36 ?hg (N := 25) ?hd (xs := ([] : List Int)) (inner := []) (ok := fun _ => True) (okp := fun _ => True) ?hr ?hp (fun _ hk => hk) trivial (Below.refl _ _) (Nat.le_refl _) (by simp) ?_; (case hd => rfl); (case hg => rfl); (case hr => first | (go_simp; done) | (go_simp; rfl)); (case hp => exact (Reps.none _ _)); intro v117 w21 ho22 hb hg_ hnew_; clear hg_ hnew_; (first | rw [← Ny116.out] at ho22 | (simp only [Int.reduceToNat] at ho22; rw [← Ny116.out] at ho22)); have n0_ := Aside0.mk (Kd.R_lower ho22 (below_size (by repeat (first | (with_reducible first | exact HB.out | apply below_alloc | apply pw_below_drewN | apply below_drew1) | exact HB.out)))); have n1_ := Aside0.mk (below_step (by repeat (first | (with_reducible first | exact HB.out | apply below_alloc | apply pw_below_drewN | apply below_drew1) | exact HB.out)) hb); clear HB; have HO118 := n0_; have HB := n1_; clear n0_ n1_; clear hb ho22))
      go_ret
      exact ⟨_, by first | rfl | (simp [errW_none, errW_some] <;> rfl) | (simp [*, errW_none, errW_some] <;> rfl), by (with_reducible repeat (first | apply Kd.R_alloc | apply Kd.R_drewN | apply Kd.R_drew)); exact HO118.out, by repeat (first | (with_reducible first | exact HB.out | apply below_alloc | apply pw_below_drewN | apply below_drew1) | exact HB.out)⟩
end Go.Proofs.Ytadfobooofkelaa.X

-- Laid by wip/xprint.py of this session (the kit's print program, with some contracts given by hand). Not trusted: Lean checks it.
namespace Go.Proofs.Ytadfobooofkelaa.X
open Go.RowKit Go.Proofs.YtadfobooofkelaaW.PrintWords Go.Proofs.YtadfobooofkelaaW.PrintLast Go.Proofs.YtadfobooofkelaaW.PrintMore
attribute [local go_sem] max2_int min2_int max_two min_two max_three min_three max_four min_four
set_option linter.unusedVariables false
set_option linter.unusedSimpArgs false
def laws_eqNimberS.l0 : Nat → List Int → List Int → Int → Option (Bool)
  | 0, _, _, _ => none
  | k + 1, x0, x1, x5 => if x5 < (x0.length : Int) then (if 0 ≤ x5 then (if x5 < (x1.length : Int) then (if (rd x0 x5) = (rd x1 x5) then (laws_eqNimberS.l0 k x0 x1 (wrap64 (x5 + 1))) else (some false)) else (none)) else (none)) else (some true)
def laws_eqNimberS.f (k : Nat) (l0 : List Int) (l1 : List Int) : Option (Bool) := if (l0.length : Int) = (l1.length : Int) then (laws_eqNimberS.l0 k l0 l1 0) else (some false)
set_option maxHeartbeats 8000000 in
set_option maxRecDepth 100000 in
theorem laws_eqNimberS.calls (k : Nat) (A0 : Option Addr) (c0 : Nat) (l0 : List Int) (A1 : Option Addr) (c1 : Nat) (l1 : List Int) (r : Bool) (w : World) (hr0 : Kd.C (Kd.int .u16) w A0 l0.length l0) (hc0 : l0.length ≤ c0) (hr1 : Kd.C (Kd.int .u16) w A1 l1.length l1) (hc1 : l1.length ≤ c1) (h : laws_eqNimberS.f k l0 l1 = some r) :
    Calls Try.prog 71 #[.slice A0 l0.length c0, .slice A1 l1.length c1] w fun e w' => e = .returned (.bool r) ∧ Drawn0 w w' := by
  have HR0 := Aside0.mk hr0
  have HC0 := Aside0.mk hc0
  clear hr0 hc0
  have HR1 := Aside0.mk hr1
  have HC1 := Aside0.mk hc1
  clear hr1 hc1
  have H : (if (l0.length : Int) = (l1.length : Int) then (laws_eqNimberS.l0 k l0 l1 0) else (some false)) = some r := h
  clear h
  by_cases c3 : (l0.length : Int) = (l1.length : Int)
  · rw [if_pos c3] at H
    have c3b0 : ((l0.length : Int) == (l1.length : Int)) = true := beq_iff_eq.mpr c3
    have c3b1 : ((l0.length : Int) != (l1.length : Int)) = false := bne_eq_false_iff_eq.mpr c3
    have c3b2 : (l0.length == l1.length) = true := by first | simpa using c3 | (simp at c3 ⊢; omega)
    clear c3
    have H' := Aside0.mk H
    clear H
    go_enter Try.func71, Try.ntmps71
    go_wp2
    repeat (go_quiet (fail); try go_wp2)
    go_loopg [5] k (fun kq v5 w' => ∃ (x5_1 : Int), v5 = .int .i64 x5_1 ∧ Aside0 (laws_eqNimberS.l0 kq l0 l1 x5_1 = some r) ∧ Aside0 (kq ≤ k) ∧ Drawn0 w w')
    case atStart => exact ⟨(0), (by first | rfl | (simp; done) | (simp [*]; done)), H', ⟨Nat.le_refl _⟩, by repeat (first | exact Drawn0.refl _ | apply Drawn0.step)⟩
    case round =>
      clear H'
      try clear c1
      try clear p2
      try clear c3
      try clear c3b0
      try clear c3b1
      try clear c3b2
      obtain ⟨x5_1, rfl, HA, HK1, ⟨m1, rfl⟩⟩ := hrel
      cases gk with
      | zero => exact absurd HA.out (by simp [laws_eqNimberS.l0])
      | succ k1 =>
        have H := HA.out
        clear HA
        simp only [laws_eqNimberS.l0] at H
        by_cases c4 : x5_1 < (l0.length : Int)
        · rw [if_pos c4] at H
          have c4b0 : decide (x5_1 < (l0.length : Int)) = true := decide_eq_true c4
          clear c4
          by_cases c5 : 0 ≤ x5_1
          · rw [if_pos c5] at H
            have c5b0 : decide (0 ≤ x5_1) = true := decide_eq_true c5
            clear c5
            by_cases c6 : x5_1 < (l1.length : Int)
            · rw [if_pos c6] at H
              have c6b0 : decide (x5_1 < (l1.length : Int)) = true := decide_eq_true c6
              clear c6
              by_cases c7 : (rd l0 x5_1) = (rd l1 x5_1)
              · rw [if_pos c7] at H
                have c7b0 : ((rd l0 x5_1) == (rd l1 x5_1)) = true := beq_iff_eq.mpr c7
                have c7b1 : ((rd l0 x5_1) != (rd l1 x5_1)) = false := bne_eq_false_iff_eq.mpr c7
                clear c7
                have H' := Aside0.mk H
                clear H
                have p101 : 0 ≤ (x5_1 : Int) := of_decide_eq_true (by first | (with_reducible assumption) | assumption)
                have q101 : x5_1 < (l0.length : Int) := of_decide_eq_true (by first | (with_reducible assumption) | assumption)
                obtain ⟨ad101, e101, hx101_0⟩ := Kd.at_int HR0.out x5_1 p101 q101
                cases e101
                replace p101 := eq_true p101
                replace q101 := eq_true q101
                have p102 : 0 ≤ (x5_1 : Int) := of_decide_eq_true (by first | (with_reducible assumption) | assumption)
                have q102 : x5_1 < (l1.length : Int) := of_decide_eq_true (by first | (with_reducible assumption) | assumption)
                obtain ⟨ad102, e102, hx102_0⟩ := Kd.at_int HR1.out x5_1 p102 q102
                cases e102
                replace p102 := eq_true p102
                replace q102 := eq_true q102
                go_wp2
                repeat (go_quiet (fail); try go_wp2)
                go_roundg k1
                case measure => have := HK1.out; omega
                case rel => exact ⟨(wrap64 (x5_1 + 1)), (by first | rfl | (simp; done) | (simp [*]; done)), H', ⟨by have := HK1.out; omega⟩, by repeat (first | exact Drawn0.refl _ | apply Drawn0.step)⟩
              · rw [if_neg c7] at H
                have c7b0 : ((rd l0 x5_1) == (rd l1 x5_1)) = false := beq_eq_false_iff_ne.mpr c7
                have c7b1 : ((rd l0 x5_1) != (rd l1 x5_1)) = true := bne_iff_ne.mpr c7
                obtain rfl := Option.some.inj H
                have p101 : 0 ≤ (x5_1 : Int) := of_decide_eq_true (by first | (with_reducible assumption) | assumption)
                have q101 : x5_1 < (l0.length : Int) := of_decide_eq_true (by first | (with_reducible assumption) | assumption)
                obtain ⟨ad101, e101, hx101_0⟩ := Kd.at_int HR0.out x5_1 p101 q101
                cases e101
                replace p101 := eq_true p101
                replace q101 := eq_true q101
                have p102 : 0 ≤ (x5_1 : Int) := of_decide_eq_true (by first | (with_reducible assumption) | assumption)
                have q102 : x5_1 < (l1.length : Int) := of_decide_eq_true (by first | (with_reducible assumption) | assumption)
                obtain ⟨ad102, e102, hx102_0⟩ := Kd.at_int HR1.out x5_1 p102 q102
                cases e102
                replace p102 := eq_true p102
                replace q102 := eq_true q102
                go_wp2
                repeat (go_quiet (fail); try go_wp2)
                go_ret
                exact ⟨by first | rfl | (simp; done) | (simp [*]; done), by repeat (first | exact Drawn0.refl _ | apply Drawn0.step)⟩
            · rw [if_neg c6] at H
              exact absurd H (by simp)
          · rw [if_neg c5] at H
            exact absurd H (by simp)
        · rw [if_neg c4] at H
          have c4b0 : decide (x5_1 < (l0.length : Int)) = false := decide_eq_false c4
          clear c4
          obtain rfl := Option.some.inj H
          go_wp2
          repeat (go_quiet (fail); try go_wp2)
          go_ret
          exact ⟨by first | rfl | (simp; done) | (simp [*]; done), by repeat (first | exact Drawn0.refl _ | apply Drawn0.step)⟩
  · rw [if_neg c3] at H
    have c3b0 : ((l0.length : Int) == (l1.length : Int)) = false := beq_eq_false_iff_ne.mpr c3
    have c3b1 : ((l0.length : Int) != (l1.length : Int)) = true := bne_iff_ne.mpr c3
    have c3b2 : (l0.length == l1.length) = false := by first | simpa using c3 | (simp at c3 ⊢; omega)
    obtain rfl := Option.some.inj H
    go_enter Try.func71, Try.ntmps71
    go_wp2
    repeat (go_quiet (fail); try go_wp2)
    go_ret
    exact ⟨by first | rfl | (simp; done) | (simp [*]; done), by repeat (first | exact Drawn0.refl _ | apply Drawn0.step)⟩
end Go.Proofs.Ytadfobooofkelaa.X

-- Laid by wip/xprint.py of this session (the kit's print program, with some contracts given by hand). Not trusted: Lean checks it.
namespace Go.Proofs.Ytadfobooofkelaa.X
open Go.RowKit Go.Proofs.YtadfobooofkelaaW.PrintWords Go.Proofs.YtadfobooofkelaaW.PrintLast Go.Proofs.YtadfobooofkelaaW.PrintMore
attribute [local go_sem] max2_int min2_int max_two min_two max_three min_three max_four min_four
set_option linter.unusedVariables false
set_option linter.unusedSimpArgs false
def laws_markNimberS.l0 : Nat → List Int → Int → Int → Option (Int × List Int)
  | 0, _, _, _ => none
  | k + 1, x0, x1, x5 => if x5 < (x0.length : Int) then (if 0 ≤ x5 then (laws_markNimberS.l0 k (x0.set (x5 : Int).toNat (IntKind.u16.wrap (x1))) (wrap64 (x1 + 1)) (wrap64 (x5 + 1))) else (none)) else (some (x1, x0))
def laws_markNimberS.f (k : Nat) (l0 : List Int) (a1 : Int) : Option (Int × List Int) := laws_markNimberS.l0 k l0 a1 0
set_option maxHeartbeats 8000000 in
set_option maxRecDepth 100000 in
theorem laws_markNimberS.calls (k : Nat) (P0_ : Nat → Prop) (u9000_ : Value) (l0 : List Int) (a1 : Int) (r1 : Int) (r2 : List Int) (w0 w : World) (hB : Below w0.heap.size w0 w) (ho0 : Kd.R (Kd.int .u16) 36 w w0.heap.size P0_ u9000_ l0) (h : laws_markNimberS.f k l0 a1 = some (r1, r2)) :
    Calls Try.prog 72 #[u9000_, .int .i64 a1] w fun e w' => e = .returned (.int .i64 r1) ∧ Kd.R (Kd.int .u16) 36 w' w0.heap.size (fun k_ => (P0_ k_ ∨ w.heap.size ≤ k_)) u9000_ r2 ∧ Below w0.heap.size w0 w' ∧ Kept w w' (fun k_ => P0_ k_) := by
  have HO0 := Aside0.mk (show Kd.R (Kd.int .u16) 36 w w0.heap.size (fun k_ => (P0_ k_ ∨ w.heap.size ≤ k_)) u9000_ l0 from Kd.R_mono ho0 (fun k_ hk => (.inl hk)))
  have HK := Aside0.mk (Kept.refl w (fun k_ => P0_ k_))
  have HW0 := Aside0.mk hB.size
  have HB := Aside0.mk hB
  clear hB
  have H : (laws_markNimberS.l0 k l0 a1 0) = some (r1, r2) := h
  clear h
  have H' := Aside0.mk H
  clear H
  go_enter Try.func72, Try.ntmps72
  go_wp2
  go_loopg [1, 5] k (fun kq v1 v5 w' => ∃ (x0_1 : List Int) (x1_1 : Int) (x5_1 : Int), v1 = .int .i64 x1_1 ∧ v5 = .int .i64 x5_1 ∧ Aside0 (laws_markNimberS.l0 kq x0_1 x1_1 x5_1 = some (r1, r2)) ∧ Aside0 (kq ≤ k) ∧ Aside0 (Kd.R (Kd.int .u16) 36 w' w0.heap.size (fun k_ => (P0_ k_ ∨ w.heap.size ≤ k_)) u9000_ x0_1) ∧ Aside0 (Kept w w' (fun k_ => P0_ k_)) ∧ Aside0 (Below w0.heap.size w0 w'))
  case atStart => exact ⟨(l0), (a1), (0), (by first | rfl | (simp; done) | (simp [*]; done)), (by first | rfl | (simp; done) | (simp [*]; done)), H', ⟨Nat.le_refl _⟩, ⟨by (with_reducible repeat (first | apply Kd.R_alloc | apply Kd.R_drewN | apply Kd.R_drew)); exact HO0.out⟩, ⟨by repeat (first | (with_reducible first | exact HK.out | apply Kept.alloc | apply Kept.drewN | apply Kept.drew) | exact HK.out)⟩, ⟨by repeat (first | (with_reducible first | exact HB.out | apply below_alloc | apply pw_below_drewN | apply below_drew1) | exact HB.out)⟩⟩
  case round =>
    clear H'
    try clear p2
    obtain ⟨x0_1, x1_1, x5_1, rfl, rfl, HA, HK1, HO_0, HK, HB⟩ := hrel
    cases gk with
    | zero => exact absurd HA.out (by simp [laws_markNimberS.l0])
    | succ k1 =>
      have H := HA.out
      clear HA
      simp only [laws_markNimberS.l0] at H
      by_cases c3 : x5_1 < (x0_1.length : Int)
      · rw [if_pos c3] at H
        have c3b0 : decide (x5_1 < (x0_1.length : Int)) = true := decide_eq_true c3
        clear c3
        by_cases c4 : 0 ≤ x5_1
        · rw [if_pos c4] at H
          have c4b0 : decide (0 ≤ x5_1) = true := decide_eq_true c4
          clear c4
          obtain ⟨y101, hy101⟩ : ∃ y_ : List Int, y_ = (x0_1.set (x5_1 : Int).toNat (IntKind.u16.wrap (x1_1))) := ⟨_, rfl⟩
          replace H : (laws_markNimberS.l0 k1 y101 (wrap64 (x1_1 + 1)) (wrap64 (x5_1 + 1))) = some (r1, r2) := by first | (rw [hy101]; with_reducible exact H) | (have H2_ := (Option.bind_some _ _).symm.trans H; rw [hy101]; with_reducible exact H2_) | (have H2_ := (Option.bind_some _ _).symm.trans H; with_reducible exact H2_) | with_reducible exact H | (rw [hy101]; exact H) | exact H
          have Ny101 := Aside0.mk hy101
          clear hy101
          have H' := Aside0.mk H
          clear H
          obtain ⟨Ao6, co6, eo6⟩ := Kd.R_slice HO_0.out
          subst eo6
          have p5 : 0 ≤ (x5_1 : Int) := of_decide_eq_true (by first | (with_reducible assumption) | assumption)
          have q5 : (x5_1 : Int) < ((x0_1.length : Int) : Int) := of_decide_eq_true (by first | (with_reducible assumption) | assumption)
          obtain ⟨go5, co5, eo5, gb5, gl5, cl5, HG5⟩ := Kd.R_form HO_0.out (by omega)
          (first | cases eo5 | (injection eo5 with ea_ en_ ec_; (first | subst ea_ | (injection ea_ with ea_; subst ea_)); subst ec_; clear en_))
          have GB5 := Aside0.mk gb5
          have GG5 := Aside0.mk HG5
          clear gb5 gl5 HG5
          have HMgo5 := Aside0.mk (show (P0_ go5 ∨ w.heap.size ≤ go5) from (HO_0.out.1 _ rfl))
          obtain ⟨hx5_0, hf5_0⟩ := Kd.R_celln 0 HO_0.out (x5_1 : Int) p5 q5
          replace p5 := eq_true p5
          replace q5 := eq_true q5
          have HP7 := Kd.R_putg HO_0.out (x5_1 : Int) (IntKind.u16.wrap (x1_1))
          go_wp2_with (first | ((with_reducible refine gate_store (t := 36) (p := 16) rfl ?_); refine store_event (t := 36) (p := 16) (v := ?vo_w8) (w1 := (wr.setCell ⟨go5, (x5_1 : Int).toNat, none⟩ (.int .u16 (IntKind.u16.wrap (x1_1))))) ?hg ?ho ?hn ?hr ?_; (case ho => rfl); (case hg => rfl); (case hn => rfl); (case hr => first | (go_simp; done) | (go_simp; rfl)); intro w8 hw; have hg : wr.grownBy w8 (some go5) := (by rw [hw]; exact HP7.2); have hp_ : Kd.R (Kd.int .u16) 36 w8 w0.heap.size (fun k_ => (P0_ k_ ∨ w.heap.size ≤ k_)) (.slice (some ⟨go5, 0, none⟩) x0_1.length co6) y101 := (by rw [hw, Ny101.out]; exact HP7.1); clear HP7; have n0_ := Aside0.mk (hp_); have n1_ := Aside0.mk ((by rw [hw]; exact below_set (HB.out) GB5.out : Below w0.heap.size w0 w8)); have n2_ := Aside0.mk (Kept.of_grown (S := (fun k_ => P0_ k_)) hg (by repeat (first | (with_reducible first | exact HK.out | apply Kept.alloc | apply Kept.drewN | apply Kept.drew) | exact HK.out)) (fun k_ e_ => (HO_0.out.1 k_ e_))); clear HO_0; clear HB; clear HK; have HO_0 := n0_; have HB := n1_; have HK := n2_; clear n0_ n1_ n2_; clear hg hw hp_))
          go_roundg k1
          case measure => have := HK1.out; omega
          case rel => exact ⟨(y101), (wrap64 (x1_1 + 1)), (wrap64 (x5_1 + 1)), (by first | rfl | (simp; done) | (simp [*]; done)), (by first | rfl | (simp; done) | (simp [*]; done)), H', ⟨by have := HK1.out; omega⟩, ⟨by (with_reducible repeat (first | apply Kd.R_alloc | apply Kd.R_drewN | apply Kd.R_drew)); exact HO_0.out⟩, ⟨by repeat (first | (with_reducible first | exact HK.out | apply Kept.alloc | apply Kept.drewN | apply Kept.drew) | exact HK.out)⟩, ⟨by repeat (first | (with_reducible first | exact HB.out | apply below_alloc | apply pw_below_drewN | apply below_drew1) | exact HB.out)⟩⟩
        · rw [if_neg c4] at H
          exact absurd H (by simp)
      · rw [if_neg c3] at H
        have c3b0 : decide (x5_1 < (x0_1.length : Int)) = false := decide_eq_false c3
        clear c3
        simp only [Option.some.injEq, Prod.mk.injEq] at H
        obtain ⟨rfl, rfl⟩ := H
        obtain ⟨Ao9, co9, eo9⟩ := Kd.R_slice HO_0.out
        subst eo9
        go_wp2
        go_ret
        exact ⟨by first | rfl | (simp [errW_none, errW_some] <;> rfl) | (simp [*, errW_none, errW_some] <;> rfl), by (with_reducible repeat (first | apply Kd.R_alloc | apply Kd.R_drewN | apply Kd.R_drew)); exact HO_0.out, by repeat (first | (with_reducible first | exact HB.out | apply below_alloc | apply pw_below_drewN | apply below_drew1) | exact HB.out), by repeat (first | (with_reducible first | exact HK.out | apply Kept.alloc | apply Kept.drewN | apply Kept.drew) | exact HK.out)⟩
end Go.Proofs.Ytadfobooofkelaa.X

-- Laid by wip/xprint.py of this session (the kit's print program, with some contracts given by hand). Not trusted: Lean checks it.
namespace Go.Proofs.Ytadfobooofkelaa.X
open Go.RowKit Go.Proofs.YtadfobooofkelaaW.PrintWords Go.Proofs.YtadfobooofkelaaW.PrintLast Go.Proofs.YtadfobooofkelaaW.PrintMore
attribute [local go_sem] max2_int min2_int max_two min_two max_three min_three max_four min_four
set_option linter.unusedVariables false
set_option linter.unusedSimpArgs false
def laws_heldNimberS.l0 : Nat → List Int → Int → Int → Option (Int)
  | 0, _, _, _ => none
  | k + 1, x0, x1, x5 => if x5 < (x0.length : Int) then (if 0 ≤ x5 then (if (rd x0 x5) = (IntKind.u16.wrap (x1)) then (laws_heldNimberS.l0 k x0 (wrap64 (x1 + 1)) (wrap64 (x5 + 1))) else (some (-1))) else (none)) else (some x1)
def laws_heldNimberS.f (k : Nat) (l0 : List Int) (a1 : Int) : Option (Int) := laws_heldNimberS.l0 k l0 a1 0
set_option maxHeartbeats 8000000 in
set_option maxRecDepth 100000 in
theorem laws_heldNimberS.calls (k : Nat) (A0 : Option Addr) (c0 : Nat) (l0 : List Int) (a1 : Int) (r : Int) (w : World) (hr0 : Kd.C (Kd.int .u16) w A0 l0.length l0) (hc0 : l0.length ≤ c0) (h : laws_heldNimberS.f k l0 a1 = some r) :
    Calls Try.prog 73 #[.slice A0 l0.length c0, .int .i64 a1] w fun e w' => e = .returned (.int .i64 r) ∧ Drawn0 w w' := by
  have HR0 := Aside0.mk hr0
  have HC0 := Aside0.mk hc0
  clear hr0 hc0
  have H : (laws_heldNimberS.l0 k l0 a1 0) = some r := h
  clear h
  have H' := Aside0.mk H
  clear H
  go_enter Try.func73, Try.ntmps73
  go_wp2
  go_loopg [1, 5] k (fun kq v1 v5 w' => ∃ (x1_1 : Int) (x5_1 : Int), v1 = .int .i64 x1_1 ∧ v5 = .int .i64 x5_1 ∧ Aside0 (laws_heldNimberS.l0 kq l0 x1_1 x5_1 = some r) ∧ Aside0 (kq ≤ k) ∧ Drawn0 w w')
  case atStart => exact ⟨(a1), (0), (by first | rfl | (simp; done) | (simp [*]; done)), (by first | rfl | (simp; done) | (simp [*]; done)), H', ⟨Nat.le_refl _⟩, by repeat (first | exact Drawn0.refl _ | apply Drawn0.step)⟩
  case round =>
    clear H'
    try clear p2
    obtain ⟨x1_1, x5_1, rfl, rfl, HA, HK1, ⟨m1, rfl⟩⟩ := hrel
    cases gk with
    | zero => exact absurd HA.out (by simp [laws_heldNimberS.l0])
    | succ k1 =>
      have H := HA.out
      clear HA
      simp only [laws_heldNimberS.l0] at H
      by_cases c3 : x5_1 < (l0.length : Int)
      · rw [if_pos c3] at H
        have c3b0 : decide (x5_1 < (l0.length : Int)) = true := decide_eq_true c3
        clear c3
        by_cases c4 : 0 ≤ x5_1
        · rw [if_pos c4] at H
          have c4b0 : decide (0 ≤ x5_1) = true := decide_eq_true c4
          clear c4
          by_cases c5 : (rd l0 x5_1) = (IntKind.u16.wrap (x1_1))
          · rw [if_pos c5] at H
            have c5b0 : ((rd l0 x5_1) == (IntKind.u16.wrap (x1_1))) = true := beq_iff_eq.mpr c5
            have c5b1 : ((rd l0 x5_1) != (IntKind.u16.wrap (x1_1))) = false := bne_eq_false_iff_eq.mpr c5
            clear c5
            have H' := Aside0.mk H
            clear H
            have p101 : 0 ≤ (x5_1 : Int) := of_decide_eq_true (by first | (with_reducible assumption) | assumption)
            have q101 : x5_1 < (l0.length : Int) := of_decide_eq_true (by first | (with_reducible assumption) | assumption)
            obtain ⟨ad101, e101, hx101_0⟩ := Kd.at_int HR0.out x5_1 p101 q101
            cases e101
            replace p101 := eq_true p101
            replace q101 := eq_true q101
            go_wp2
            go_roundg k1
            case measure => have := HK1.out; omega
            case rel => exact ⟨(wrap64 (x1_1 + 1)), (wrap64 (x5_1 + 1)), (by first | rfl | (simp; done) | (simp [*]; done)), (by first | rfl | (simp; done) | (simp [*]; done)), H', ⟨by have := HK1.out; omega⟩, by repeat (first | exact Drawn0.refl _ | apply Drawn0.step)⟩
          · rw [if_neg c5] at H
            have c5b0 : ((rd l0 x5_1) == (IntKind.u16.wrap (x1_1))) = false := beq_eq_false_iff_ne.mpr c5
            have c5b1 : ((rd l0 x5_1) != (IntKind.u16.wrap (x1_1))) = true := bne_iff_ne.mpr c5
            obtain rfl := Option.some.inj H
            have p101 : 0 ≤ (x5_1 : Int) := of_decide_eq_true (by first | (with_reducible assumption) | assumption)
            have q101 : x5_1 < (l0.length : Int) := of_decide_eq_true (by first | (with_reducible assumption) | assumption)
            obtain ⟨ad101, e101, hx101_0⟩ := Kd.at_int HR0.out x5_1 p101 q101
            cases e101
            replace p101 := eq_true p101
            replace q101 := eq_true q101
            go_wp2
            go_ret
            exact ⟨by first | rfl | (simp; done) | (simp [*]; done), by repeat (first | exact Drawn0.refl _ | apply Drawn0.step)⟩
        · rw [if_neg c4] at H
          exact absurd H (by simp)
      · rw [if_neg c3] at H
        have c3b0 : decide (x5_1 < (l0.length : Int)) = false := decide_eq_false c3
        clear c3
        obtain rfl := Option.some.inj H
        go_wp2
        go_ret
        exact ⟨by first | rfl | (simp; done) | (simp [*]; done), by repeat (first | exact Drawn0.refl _ | apply Drawn0.step)⟩
end Go.Proofs.Ytadfobooofkelaa.X

-- Laid by wip/xprint.py of this session (the kit's print program, with some contracts given by hand). Not trusted: Lean checks it.
namespace Go.Proofs.Ytadfobooofkelaa.X
open Go.RowKit Go.Proofs.YtadfobooofkelaaW.PrintWords Go.Proofs.YtadfobooofkelaaW.PrintLast Go.Proofs.YtadfobooofkelaaW.PrintMore
attribute [local go_sem] max2_int min2_int max_two min_two max_three min_three max_four min_four
set_option linter.unusedVariables false
set_option linter.unusedSimpArgs false
def laws_FnExactQuadraticRoots.f (k : Nat) (a0 : Int) (a1 : Int) : Option (Bool) := (spec_QuadraticRoots.f k a0 a1).bind fun t101 => ((impl_QuadraticRoots.f k a0 a1).bind fun t104 => ((laws_eqNimberS.f k t104 t101).bind fun t107 => (if t107 = true then ((laws_markNimberS.f k t104 1).bind fun bt108 => ((laws_heldNimberS.f k bt108.2 1).bind fun t110 => (if t110 < 0 then (none) else (if t110 = bt108.1 then ((impl_QuadraticRoots.f k a0 a1).bind fun t111 => ((laws_eqNimberS.f k t111 t101).bind fun t114 => (if t114 = true then ((laws_heldNimberS.f k bt108.2 1).bind fun t115 => (if t115 < 0 then (none) else (if t115 = bt108.1 then (some true) else (none)))) else (none)))) else (none))))) else (none))))
set_option maxHeartbeats 8000000 in
set_option maxRecDepth 100000 in
theorem laws_FnExactQuadraticRoots.calls (k : Nat) (a0 : Int) (a1 : Int) (r : Bool) (w : World) (h : laws_FnExactQuadraticRoots.f k a0 a1 = some r) :
    Calls Try.prog 8 #[.int .u16 a0, .int .u16 a1] w fun e w' => e = .returned (.bool r) ∧ Below w.heap.size w w' := by
  have HB := Aside0.mk (Below.refl w.heap.size w)
  have H : ((spec_QuadraticRoots.f k a0 a1).bind fun t101 => ((impl_QuadraticRoots.f k a0 a1).bind fun t104 => ((laws_eqNimberS.f k t104 t101).bind fun t107 => (if t107 = true then ((laws_markNimberS.f k t104 1).bind fun bt108 => ((laws_heldNimberS.f k bt108.2 1).bind fun t110 => (if t110 < 0 then (none) else (if t110 = bt108.1 then ((impl_QuadraticRoots.f k a0 a1).bind fun t111 => ((laws_eqNimberS.f k t111 t101).bind fun t114 => (if t114 = true then ((laws_heldNimberS.f k bt108.2 1).bind fun t115 => (if t115 < 0 then (none) else (if t115 = bt108.1 then (some true) else (none)))) else (none)))) else (none))))) else (none))))) = some r := h
  clear h
  replace H := Option.bind_eq_some_iff.mp H
  obtain ⟨t101, A30, H⟩ := H
  replace H : ((impl_QuadraticRoots.f k a0 a1).bind fun t104 => ((laws_eqNimberS.f k t104 t101).bind fun t107 => (if t107 = true then ((laws_markNimberS.f k t104 1).bind fun bt108 => ((laws_heldNimberS.f k bt108.2 1).bind fun t110 => (if t110 < 0 then (none) else (if t110 = bt108.1 then ((impl_QuadraticRoots.f k a0 a1).bind fun t111 => ((laws_eqNimberS.f k t111 t101).bind fun t114 => (if t114 = true then ((laws_heldNimberS.f k bt108.2 1).bind fun t115 => (if t115 < 0 then (none) else (if t115 = bt108.1 then (some true) else (none)))) else (none)))) else (none))))) else (none)))) = some r := H
  have A3 := Aside0.mk A30
  clear A30
  replace H := Option.bind_eq_some_iff.mp H
  obtain ⟨t104, A40, H⟩ := H
  replace H : ((laws_eqNimberS.f k t104 t101).bind fun t107 => (if t107 = true then ((laws_markNimberS.f k t104 1).bind fun bt108 => ((laws_heldNimberS.f k bt108.2 1).bind fun t110 => (if t110 < 0 then (none) else (if t110 = bt108.1 then ((impl_QuadraticRoots.f k a0 a1).bind fun t111 => ((laws_eqNimberS.f k t111 t101).bind fun t114 => (if t114 = true then ((laws_heldNimberS.f k bt108.2 1).bind fun t115 => (if t115 < 0 then (none) else (if t115 = bt108.1 then (some true) else (none)))) else (none)))) else (none))))) else (none))) = some r := H
  have A4 := Aside0.mk A40
  clear A40
  replace H := Option.bind_eq_some_iff.mp H
  obtain ⟨t107, A50, H⟩ := H
  replace H : (if t107 = true then ((laws_markNimberS.f k t104 1).bind fun bt108 => ((laws_heldNimberS.f k bt108.2 1).bind fun t110 => (if t110 < 0 then (none) else (if t110 = bt108.1 then ((impl_QuadraticRoots.f k a0 a1).bind fun t111 => ((laws_eqNimberS.f k t111 t101).bind fun t114 => (if t114 = true then ((laws_heldNimberS.f k bt108.2 1).bind fun t115 => (if t115 < 0 then (none) else (if t115 = bt108.1 then (some true) else (none)))) else (none)))) else (none))))) else (none)) = some r := H
  have A5 := Aside0.mk A50
  clear A50
  by_cases c6 : t107 = true
  · subst c6
    have H1 : ((laws_markNimberS.f k t104 1).bind fun bt108 => ((laws_heldNimberS.f k bt108.2 1).bind fun t110 => (if t110 < 0 then (none) else (if t110 = bt108.1 then ((impl_QuadraticRoots.f k a0 a1).bind fun t111 => ((laws_eqNimberS.f k t111 t101).bind fun t114 => (if t114 = true then ((laws_heldNimberS.f k bt108.2 1).bind fun t115 => (if t115 < 0 then (none) else (if t115 = bt108.1 then (some true) else (none)))) else (none)))) else (none))))) = some r := by rw [if_pos rfl] at H; exact H
    clear H
    have H := H1
    clear H1
    replace H := Option.bind_eq_some_iff.mp H
    obtain ⟨⟨t108, t109⟩, A70, H⟩ := H
    replace H : ((laws_heldNimberS.f k t109 1).bind fun t110 => (if t110 < 0 then (none) else (if t110 = t108 then ((impl_QuadraticRoots.f k a0 a1).bind fun t111 => ((laws_eqNimberS.f k t111 t101).bind fun t114 => (if t114 = true then ((laws_heldNimberS.f k t109 1).bind fun t115 => (if t115 < 0 then (none) else (if t115 = t108 then (some true) else (none)))) else (none)))) else (none)))) = some r := H
    have A7 := Aside0.mk A70
    clear A70
    replace H := Option.bind_eq_some_iff.mp H
    obtain ⟨t110, A80, H⟩ := H
    replace H : (if t110 < 0 then (none) else (if t110 = t108 then ((impl_QuadraticRoots.f k a0 a1).bind fun t111 => ((laws_eqNimberS.f k t111 t101).bind fun t114 => (if t114 = true then ((laws_heldNimberS.f k t109 1).bind fun t115 => (if t115 < 0 then (none) else (if t115 = t108 then (some true) else (none)))) else (none)))) else (none))) = some r := H
    have A8 := Aside0.mk A80
    clear A80
    by_cases c9 : t110 < 0
    · rw [if_pos c9] at H
      exact absurd H (by simp)
    · rw [if_neg c9] at H
      have c9b0 : decide (t110 < 0) = false := decide_eq_false c9
      clear c9
      by_cases c10 : t110 = t108
      · rw [if_pos c10] at H
        have c10b0 : (t110 == t108) = true := beq_iff_eq.mpr c10
        have c10b1 : (t110 != t108) = false := bne_eq_false_iff_eq.mpr c10
        clear c10
        replace H := Option.bind_eq_some_iff.mp H
        obtain ⟨t111, A110, H⟩ := H
        replace H : ((laws_eqNimberS.f k t111 t101).bind fun t114 => (if t114 = true then ((laws_heldNimberS.f k t109 1).bind fun t115 => (if t115 < 0 then (none) else (if t115 = t108 then (some true) else (none)))) else (none))) = some r := H
        have A11 := Aside0.mk A110
        clear A110
        replace H := Option.bind_eq_some_iff.mp H
        obtain ⟨t114, A120, H⟩ := H
        replace H : (if t114 = true then ((laws_heldNimberS.f k t109 1).bind fun t115 => (if t115 < 0 then (none) else (if t115 = t108 then (some true) else (none)))) else (none)) = some r := H
        have A12 := Aside0.mk A120
        clear A120
        by_cases c13 : t114 = true
        · subst c13
          have H1 : ((laws_heldNimberS.f k t109 1).bind fun t115 => (if t115 < 0 then (none) else (if t115 = t108 then (some true) else (none)))) = some r := by rw [if_pos rfl] at H; exact H
          clear H
          have H := H1
          clear H1
          replace H := Option.bind_eq_some_iff.mp H
          obtain ⟨t115, A140, H⟩ := H
          replace H : (if t115 < 0 then (none) else (if t115 = t108 then (some true) else (none))) = some r := H
          have A14 := Aside0.mk A140
          clear A140
          by_cases c15 : t115 < 0
          · rw [if_pos c15] at H
            exact absurd H (by simp)
          · rw [if_neg c15] at H
            have c15b0 : decide (t115 < 0) = false := decide_eq_false c15
            clear c15
            by_cases c16 : t115 = t108
            · rw [if_pos c16] at H
              have c16b0 : (t115 == t108) = true := beq_iff_eq.mpr c16
              have c16b1 : (t115 != t108) = false := bne_eq_false_iff_eq.mpr c16
              clear c16
              obtain rfl := Option.some.inj H
              go_enter Try.func8, Try.ntmps8
              go_wp2_with (first | ((with_reducible refine gate_callee (f := 69) rfl ?_); refine goesL_ (some 12) rfl rfl Try.func69 (by kernel_rfl) rfl #[.int .u16 a0, .int .u16 a1] rfl (by (try simp only [List.map_toArray, List.map_cons, List.map_nil]); first | done | rfl | (simp only [List.length_drop, List.length_take]; rfl)) ?_; (with_reducible refine (spec_QuadraticRoots.calls k a0 a1 t101 _ A3.out).mono ?_); rintro e w17 ⟨v102, rfl, ho0, hb⟩; refine ⟨_, rfl, ?_⟩; have n0_ := Aside0.mk (Kd.R_lower ho0 (below_size (by repeat (first | (with_reducible first | exact HB.out | apply below_alloc | apply pw_below_drewN | apply below_drew1) | exact HB.out)))); have n1_ := Aside0.mk (below_step (by repeat (first | (with_reducible first | exact HB.out | apply below_alloc | apply pw_below_drewN | apply below_drew1) | exact HB.out)) hb); clear HB; have HO103 := n0_; have HB := n1_; clear n0_ n1_; (try clear hb); (try clear hb2); (try clear hk); (try clear hi); (try clear ho0)) | ((with_reducible refine gate_callee (f := 70) rfl ?_); refine goesL_ (some 15) rfl rfl Try.func70 (by kernel_rfl) rfl #[.int .u16 a0, .int .u16 a1] rfl (by (try simp only [List.map_toArray, List.map_cons, List.map_nil]); first | done | rfl | (simp only [List.length_drop, List.length_take]; rfl)) ?_; (with_reducible refine (impl_QuadraticRoots.calls k a0 a1 t104 _ A4.out).mono ?_); rintro e w18 ⟨v105, rfl, ho0, hb⟩; refine ⟨_, rfl, ?_⟩; have n0_ := Aside0.mk (Kd.R_elder' (by (with_reducible repeat (first | apply Kd.R_alloc | apply Kd.R_drewN | apply Kd.R_drew)); exact HO103.out) (Kd.R_base ho0) hb); have n1_ := Aside0.mk (Kd.R_lower (Kd.R_new' ho0 (Kd.R_lt (by (with_reducible repeat (first | apply Kd.R_alloc | apply Kd.R_drewN | apply Kd.R_drew)); exact HO103.out))) (below_size (by repeat (first | (with_reducible first | exact HB.out | apply below_alloc | apply pw_below_drewN | apply below_drew1) | exact HB.out)))); have n2_ := Aside0.mk (below_step (by repeat (first | (with_reducible first | exact HB.out | apply below_alloc | apply pw_below_drewN | apply below_drew1) | exact HB.out)) hb); clear HO103; clear HB; have HO103 := n0_; have HO106 := n1_; have HB := n2_; clear n0_ n1_ n2_; (try clear hb); (try clear hb2); (try clear hk); (try clear hi); (try clear ho0); obtain ⟨Ao19, co19, eo19⟩ := Kd.R_slice HO106.out; subst eo19; obtain ⟨Ao20, co20, eo20⟩ := Kd.R_slice HO103.out; subst eo20) | ((with_reducible refine gate_callee (f := 71) rfl ?_); refine goesL_ (some 18) rfl rfl Try.func71 (by kernel_rfl) rfl #[.slice Ao19 t104.length co19, .slice Ao20 t101.length co20] rfl (by (try simp only [List.map_toArray, List.map_cons, List.map_nil]); first | done | rfl | (simp only [List.length_drop, List.length_take]; rfl)) ?_; (with_reducible refine (laws_eqNimberS.calls k _ _ t104 _ _ t101 true _ ?side1 ?side2 ?side3 ?side4 A5.out).mono ?_); (case side1 => repeat (first | exact (Kd.R_reads' HO106.out).2.2 | (with_reducible refine Kd.C_alloc ?_ _) | (with_reducible refine Kd.C_drewN ?_ _) | (with_reducible refine Kd.C_drew ?_))); (case side2 => exact (Kd.R_reads' HO106.out).2.1); (case side3 => repeat (first | exact (Kd.R_reads' HO103.out).2.2 | (with_reducible refine Kd.C_alloc ?_ _) | (with_reducible refine Kd.C_drewN ?_ _) | (with_reducible refine Kd.C_drew ?_))); (case side4 => exact (Kd.R_reads' HO103.out).2.1); rintro e w' ⟨rfl, ⟨nd, rfl⟩⟩; refine ⟨_, rfl, ?_⟩) | ((with_reducible refine gate_callee (f := 72) rfl ?_); refine goesL_ (some 22) rfl rfl Try.func72 (by kernel_rfl) rfl #[.slice Ao19 t104.length co19, .int .i64 1] rfl (by (try simp only [List.map_toArray, List.map_cons, List.map_nil]); first | done | rfl | (simp only [List.length_drop, List.length_take]; rfl)) ?_; (with_reducible refine (laws_markNimberS.calls k (fun k_ => some k_ = (.slice Ao19 t104.length co19 : Value).ownBlock) (.slice Ao19 t104.length co19) t104 1 t108 t109 w _ ?side1 ?side2 A7.out).mono ?_); (case side1 => repeat (first | (with_reducible first | exact HB.out | apply below_alloc | apply pw_below_drewN | apply below_drew1) | exact HB.out)); (case side2 => exact Kd.R_tight rfl HO106.out); rintro e w21 ⟨rfl, hy0, hb, hkp⟩; refine ⟨_, rfl, ?_⟩; have n0_ := Aside0.mk (Kd.R_mono (ok' := fun k_ => some k_ ≠ (.slice Ao19 t104.length co19 : Value).ownBlock) (Kd.R_keptB (HO103.out) hkp (fun k_ hk_ hs_ => (hk_.2) hs_)) (fun k_ hk_ => hk_.1.2)); have n1_ := Aside0.mk (Kd.R_reok rfl hy0 (fun k_ e_ => HO106.out.1 k_ e_)); have n2_ := Aside0.mk (hb); clear HO103; clear HO106; clear HB; have HO103 := n0_; have HO106 := n1_; have HB := n2_; clear n0_ n1_ n2_; (try clear hb); (try clear hkp); (try clear hy0)) | ((with_reducible refine gate_callee (f := 73) rfl ?_); refine goesL_ (some 25) rfl rfl Try.func73 (by kernel_rfl) rfl #[.slice Ao19 t109.length co19, .int .i64 1] rfl (by (try simp only [List.map_toArray, List.map_cons, List.map_nil]); first | done | (rw [show t109.length = t104.length from (Kd.R_reads' HO106.out).1.symm] <;> rfl) | rfl | (simp only [List.length_drop, List.length_take]; rfl)) ?_; (with_reducible refine (laws_heldNimberS.calls k _ _ t109 1 t110 _ ?side1 ?side2 A8.out).mono ?_); (case side1 => repeat (first | exact (Kd.R_reads' HO106.out).2.2 | (with_reducible refine Kd.C_alloc ?_ _) | (with_reducible refine Kd.C_drewN ?_ _) | (with_reducible refine Kd.C_drew ?_))); (case side2 => rw [show t109.length = t104.length from (Kd.R_reads' HO106.out).1.symm]; exact (Kd.R_reads' HO106.out).2.1); rintro e w' ⟨rfl, ⟨nd, rfl⟩⟩; refine ⟨_, rfl, ?_⟩) | ((with_reducible refine gate_callee (f := 70) rfl ?_); refine goesL_ (some 33) rfl rfl Try.func70 (by kernel_rfl) rfl #[.int .u16 a0, .int .u16 a1] rfl (by (try simp only [List.map_toArray, List.map_cons, List.map_nil]); first | done | rfl | (simp only [List.length_drop, List.length_take]; rfl)) ?_; (with_reducible refine (impl_QuadraticRoots.calls k a0 a1 t111 _ A11.out).mono ?_); rintro e w22 ⟨v112, rfl, ho0, hb⟩; refine ⟨_, rfl, ?_⟩; have n0_ := Aside0.mk (Kd.R_elder' (by (with_reducible repeat (first | apply Kd.R_alloc | apply Kd.R_drewN | apply Kd.R_drew)); exact HO103.out) (Kd.R_base ho0) hb); have n1_ := Aside0.mk (Kd.R_elder' (by (with_reducible repeat (first | apply Kd.R_alloc | apply Kd.R_drewN | apply Kd.R_drew)); exact HO106.out) (Kd.R_base ho0) hb); have n2_ := Aside0.mk (Kd.R_lower (Kd.R_new' (Kd.R_new' ho0 (Kd.R_lt (by (with_reducible repeat (first | apply Kd.R_alloc | apply Kd.R_drewN | apply Kd.R_drew)); exact HO103.out))) (Kd.R_lt (by (with_reducible repeat (first | apply Kd.R_alloc | apply Kd.R_drewN | apply Kd.R_drew)); exact HO106.out))) (below_size (by repeat (first | (with_reducible first | exact HB.out | apply below_alloc | apply pw_below_drewN | apply below_drew1) | exact HB.out)))); have n3_ := Aside0.mk (below_step (by repeat (first | (with_reducible first | exact HB.out | apply below_alloc | apply pw_below_drewN | apply below_drew1) | exact HB.out)) hb); clear HO103; clear HO106; clear HB; have HO103 := n0_; have HO106 := n1_; have HO113 := n2_; have HB := n3_; clear n0_ n1_ n2_ n3_; (try clear hb); (try clear hb2); (try clear hk); (try clear hi); (try clear ho0); obtain ⟨Ao23, co23, eo23⟩ := Kd.R_slice HO113.out; subst eo23) | ((with_reducible refine gate_callee (f := 71) rfl ?_); refine goesL_ (some 36) rfl rfl Try.func71 (by kernel_rfl) rfl #[.slice Ao23 t111.length co23, .slice Ao20 t101.length co20] rfl (by (try simp only [List.map_toArray, List.map_cons, List.map_nil]); first | done | rfl | (simp only [List.length_drop, List.length_take]; rfl)) ?_; (with_reducible refine (laws_eqNimberS.calls k _ _ t111 _ _ t101 true _ ?side1 ?side2 ?side3 ?side4 A12.out).mono ?_); (case side1 => repeat (first | exact (Kd.R_reads' HO113.out).2.2 | (with_reducible refine Kd.C_alloc ?_ _) | (with_reducible refine Kd.C_drewN ?_ _) | (with_reducible refine Kd.C_drew ?_))); (case side2 => exact (Kd.R_reads' HO113.out).2.1); (case side3 => repeat (first | exact (Kd.R_reads' HO103.out).2.2 | (with_reducible refine Kd.C_alloc ?_ _) | (with_reducible refine Kd.C_drewN ?_ _) | (with_reducible refine Kd.C_drew ?_))); (case side4 => exact (Kd.R_reads' HO103.out).2.1); rintro e w' ⟨rfl, ⟨nd, rfl⟩⟩; refine ⟨_, rfl, ?_⟩) | ((with_reducible refine gate_callee (f := 73) rfl ?_); refine goesL_ (some 40) rfl rfl Try.func73 (by kernel_rfl) rfl #[.slice Ao19 t109.length co19, .int .i64 1] rfl (by (try simp only [List.map_toArray, List.map_cons, List.map_nil]); first | done | (rw [show t109.length = t104.length from (Kd.R_reads' HO106.out).1.symm] <;> rfl) | rfl | (simp only [List.length_drop, List.length_take]; rfl)) ?_; (with_reducible refine (laws_heldNimberS.calls k _ _ t109 1 t115 _ ?side1 ?side2 A14.out).mono ?_); (case side1 => repeat (first | exact (Kd.R_reads' HO106.out).2.2 | (with_reducible refine Kd.C_alloc ?_ _) | (with_reducible refine Kd.C_drewN ?_ _) | (with_reducible refine Kd.C_drew ?_))); (case side2 => rw [show t109.length = t104.length from (Kd.R_reads' HO106.out).1.symm]; exact (Kd.R_reads' HO106.out).2.1); rintro e w' ⟨rfl, ⟨nd, rfl⟩⟩; refine ⟨_, rfl, ?_⟩))
              go_ret
              exact ⟨by first | rfl | (simp [errW_none, errW_some] <;> rfl) | (simp [*, errW_none, errW_some] <;> rfl), by repeat (first | (with_reducible first | exact HB.out | apply below_alloc | apply pw_below_drewN | apply below_drew1) | exact HB.out)⟩
            · rw [if_neg c16] at H
              exact absurd H (by simp)
        · replace c13 := Bool.eq_false_iff.mpr c13
          subst c13
          have H1 : (none) = some r := by rw [if_neg (show ¬ (false = true) by decide)] at H; exact H
          clear H
          have H := H1
          clear H1
          exact absurd H (by simp)
      · rw [if_neg c10] at H
        exact absurd H (by simp)
  · replace c6 := Bool.eq_false_iff.mpr c6
    subst c6
    have H1 : (none) = some r := by rw [if_neg (show ¬ (false = true) by decide)] at H; exact H
    clear H
    have H := H1
    clear H1
    exact absurd H (by simp)
def laws_FnExactQuadraticRoots.Pure : Prop := ∀ (a0 : Int) (a1 : Int), (Lit.int .u16 a0).wf = true → (Lit.int .u16 a1).wf = true → ∃ k, laws_FnExactQuadraticRoots.f k a0 a1 = some true
theorem laws_FnExactQuadraticRoots.walk (P : laws_FnExactQuadraticRoots.Pure) (a0 : Int) (a1 : Int) (w : World) (w0 : (Lit.int .u16 a0).wf = true) (w1 : (Lit.int .u16 a1).wf = true) :
    Calls Try.prog 8 #[.int .u16 a0, .int .u16 a1] w fun e w' => e = .returned (.bool true) ∧ Below w.heap.size w w' := by
  obtain ⟨k, h⟩ := P a0 a1 w0 w1
  refine (laws_FnExactQuadraticRoots.calls k a0 a1 true w h).mono ?_
  rintro e w' ⟨rfl, hd⟩
  exact ⟨rfl, hd⟩
end Go.Proofs.Ytadfobooofkelaa.X

namespace Go.Proofs.Ytadfobooofkelaa.Nim
set_option linter.unusedVariables false
set_option linter.unusedSimpArgs false
inductive F : Nat → Type
  | bit : Bool → F 0
  | pair {k : Nat} : F k → F k → F (k + 1)
  deriving DecidableEq
def fadd : {k : Nat} → F k → F k → F k
  | _, .bit a, .bit b => .bit (xor a b)
  | _, .pair a1 a0, .pair b1 b0 => .pair (fadd a1 b1) (fadd a0 b0)
def fzero : (k : Nat) → F k
  | 0 => .bit false
  | k + 1 => .pair (fzero k) (fzero k)
def fone : (k : Nat) → F k
  | 0 => .bit true
  | k + 1 => .pair (fzero k) (fone k)
def fh : (k : Nat) → F k
  | 0 => .bit true
  | k + 1 => .pair (fh k) (fzero k)
def fmul : {k : Nat} → F k → F k → F k
  | _, .bit a, .bit b => .bit (and a b)
  | _, .pair (k := k) a1 a0, .pair b1 b0 => .pair (fadd (fadd (fmul a1 b1) (fmul a1 b0)) (fmul a0 b1)) (fadd (fmul a0 b0) (fmul (fmul a1 b1) (fh k)))
instance (k : Nat) : Add (F k) := ⟨fadd⟩
instance (k : Nat) : Mul (F k) := ⟨fmul⟩
instance (k : Nat) : OfNat (F k) 0 := ⟨fzero k⟩
instance (k : Nat) : OfNat (F k) 1 := ⟨fone k⟩
theorem add_bit (a b : Bool) : F.bit a + F.bit b = F.bit (xor a b) := rfl
theorem mul_bit (a b : Bool) : F.bit a * F.bit b = F.bit (and a b) := rfl
theorem add_mk {k : Nat} (a1 a0 b1 b0 : F k) : F.pair a1 a0 + F.pair b1 b0 = F.pair (a1 + b1) (a0 + b0) := rfl
theorem mul_mk {k : Nat} (a1 a0 b1 b0 : F k) : F.pair a1 a0 * F.pair b1 b0 = F.pair (a1 * b1 + a1 * b0 + a0 * b1) (a0 * b0 + a1 * b1 * fh k) := rfl
theorem zero_bit : (0 : F 0) = .bit false := rfl
theorem one_bit : (1 : F 0) = .bit true := rfl
theorem zero_mk {k : Nat} : (0 : F (k + 1)) = .pair 0 0 := rfl
theorem one_mk {k : Nat} : (1 : F (k + 1)) = .pair 0 1 := rfl
theorem fadd_comm : ∀ {k : Nat} (a b : F k), a + b = b + a
  | _, .bit a, .bit b => by rw [add_bit, add_bit, Bool.xor_comm]
  | _, .pair a1 a0, .pair b1 b0 => by rw [add_mk, add_mk, fadd_comm a1, fadd_comm a0]
theorem fadd_assoc : ∀ {k : Nat} (a b c : F k), a + b + c = a + (b + c)
  | _, .bit a, .bit b, .bit c => by simp only [add_bit, Bool.xor_assoc]
  | _, .pair a1 a0, .pair b1 b0, .pair c1 c0 => by rw [add_mk, add_mk, add_mk, add_mk, fadd_assoc a1, fadd_assoc a0]
theorem fadd_self : ∀ {k : Nat} (a : F k), a + a = 0
  | _, .bit a => by rw [add_bit, Bool.xor_self]; rfl
  | _, .pair a1 a0 => by rw [add_mk, fadd_self a1, fadd_self a0]; rfl
theorem fzero_add : ∀ {k : Nat} (a : F k), 0 + a = a
  | _, .bit a => by rw [zero_bit, add_bit, Bool.false_xor]
  | _, .pair a1 a0 => by rw [zero_mk, add_mk, fzero_add a1, fzero_add a0]
theorem fadd_zero {k : Nat} (a : F k) : a + 0 = a := by rw [fadd_comm, fzero_add]
theorem fadd_left_comm {k : Nat} (a b c : F k) : a + (b + c) = b + (a + c) := by rw [← fadd_assoc, fadd_comm a, fadd_assoc]
theorem fadd_cancel {k : Nat} (a b : F k) : a + (a + b) = b := by rw [← fadd_assoc, fadd_self, fzero_add]
theorem fzero_mul : ∀ {k : Nat} (a : F k), 0 * a = 0
  | _, .bit a => by rw [zero_bit, mul_bit, Bool.false_and]
  | _, .pair a1 a0 => by rw [zero_mk, mul_mk]; simp only [fzero_mul, fzero_add]
structure Laws (k : Nat) : Prop where
  comm : ∀ a b : F k, a * b = b * a
  dist : ∀ a b c : F k, a * (b + c) = a * b + a * c
  assoc : ∀ a b c : F k, a * b * c = a * (b * c)
  one : ∀ a : F k, 1 * a = a
theorem laws : ∀ k : Nat, Laws k
  | 0 => by
    refine ⟨?_, ?_, ?_, ?_⟩
    · rintro ⟨a⟩ ⟨b⟩; rw [mul_bit, mul_bit, Bool.and_comm]
    · rintro ⟨a⟩ ⟨b⟩ ⟨c⟩; simp only [add_bit, mul_bit, Bool.and_xor_distrib_left]
    · rintro ⟨a⟩ ⟨b⟩ ⟨c⟩; simp only [mul_bit, Bool.and_assoc]
    · rintro ⟨a⟩; rw [one_bit, mul_bit, Bool.true_and]
  | k + 1 => by
    have L := laws k
    have lcomm : ∀ a b c : F k, a * (b * c) = b * (a * c) := fun a b c => by rw [← L.assoc, L.comm a b, L.assoc]
    have distr : ∀ a b c : F k, (b + c) * a = b * a + c * a := fun a b c => by rw [L.comm, L.dist, L.comm a b, L.comm a c]
    refine ⟨?_, ?_, ?_, ?_⟩
    · intro a b
      cases a with | pair a1 a0 =>
      cases b with | pair b1 b0 =>
      rw [mul_mk, mul_mk, L.comm b1 a1, L.comm b1 a0, L.comm b0 a1, L.comm b0 a0, fadd_assoc, fadd_comm (a1 * b0), ← fadd_assoc]
    · rintro ⟨a1, a0⟩ ⟨b1, b0⟩ ⟨c1, c0⟩
      simp only [mul_mk, add_mk, L.dist, distr]
      congr 1 <;> simp only [fadd_assoc, fadd_comm, fadd_left_comm]
    · rintro ⟨a1, a0⟩ ⟨b1, b0⟩ ⟨c1, c0⟩
      simp only [mul_mk, L.dist, distr, L.assoc]
      have e1 : ∀ x : F k, x * fh k = fh k * x := fun x => L.comm _ _
      congr 1
      · simp only [L.comm, lcomm, fadd_assoc, fadd_comm, fadd_left_comm]
      · simp only [L.comm, lcomm, fadd_assoc, fadd_comm, fadd_left_comm]
    · rintro ⟨a1, a0⟩
      rw [one_mk, mul_mk]
      simp only [fzero_mul, fzero_add, L.one, fadd_zero]
theorem fmul_comm {k : Nat} (a b : F k) : a * b = b * a := (laws k).comm a b
theorem fmul_assoc {k : Nat} (a b c : F k) : a * b * c = a * (b * c) := (laws k).assoc a b c
theorem fmul_left_comm {k : Nat} (a b c : F k) : a * (b * c) = b * (a * c) := by rw [← fmul_assoc, fmul_comm a b, fmul_assoc]
theorem fmul_add {k : Nat} (a b c : F k) : a * (b + c) = a * b + a * c := (laws k).dist a b c
theorem fadd_mul {k : Nat} (a b c : F k) : (a + b) * c = a * c + b * c := by rw [fmul_comm, fmul_add, fmul_comm c a, fmul_comm c b]
theorem fone_mul {k : Nat} (a : F k) : 1 * a = a := (laws k).one a
theorem fmul_one {k : Nat} (a : F k) : a * 1 = a := by rw [fmul_comm, fone_mul]
theorem fmul_zero {k : Nat} (a : F k) : a * 0 = 0 := by rw [fmul_comm, fzero_mul]
theorem fsq_add {k : Nat} (a b : F k) : (a + b) * (a + b) = a * a + b * b := by
  rw [fmul_add, fadd_mul, fadd_mul, fmul_comm b a, fadd_assoc, fadd_cancel]
def ftop : {k : Nat} → F k → Bool
  | _, .bit a => a
  | _, .pair a1 _ => ftop a1
def fpow {k : Nat} (a : F k) : Nat → F k
  | 0 => 1
  | n + 1 => a * fpow a n
theorem fpow_add {k : Nat} (a : F k) (m n : Nat) : fpow a (m + n) = fpow a m * fpow a n := by
  induction m with
  | zero => rw [Nat.zero_add]; exact (fone_mul _).symm
  | succ m ih => rw [Nat.succ_add]; show a * fpow a (m + n) = a * fpow a m * fpow a n; rw [ih, fmul_assoc]
theorem fpow_mul {k : Nat} (a b : F k) (n : Nat) : fpow (a * b) n = fpow a n * fpow b n := by
  induction n with
  | zero => exact (fone_mul _).symm
  | succ n ih =>
    show a * b * fpow (a * b) n = a * fpow a n * (b * fpow b n)
    rw [ih]
    simp only [fmul_assoc, fmul_comm, fmul_left_comm]
theorem fpow_two {k : Nat} (a : F k) (n : Nat) : fpow a (2 * n) = fpow (a * a) n := by rw [Nat.two_mul, fpow_add, fpow_mul]
theorem fpow_one {k : Nat} (a : F k) : fpow a 1 = a := fmul_one a
def fsqn {k : Nat} : Nat → F k → F k
  | 0, a => a
  | n + 1, a => fsqn n (a * a)
theorem fsqn_pow {k : Nat} : ∀ (n : Nat) (a : F k), fsqn n a = fpow a (2 ^ n)
  | 0, a => (fpow_one a).symm
  | n + 1, a => by rw [fsqn, fsqn_pow n, Nat.pow_succ, Nat.mul_comm, fpow_two]
theorem fsqn_add {k : Nat} : ∀ (n : Nat) (a b : F k), fsqn n (a + b) = fsqn n a + fsqn n b
  | 0, a, b => rfl
  | n + 1, a, b => by rw [fsqn, fsqn, fsqn, fsq_add, fsqn_add n]
def fval : {k : Nat} → F k → Nat
  | _, .bit a => a.toNat
  | _, .pair (k := k) a1 a0 => 2 ^ 2 ^ k * fval a1 + fval a0
def fof : (k : Nat) → Nat → F k
  | 0, n => .bit (decide (n % 2 = 1))
  | k + 1, n => .pair (fof k (n / 2 ^ 2 ^ k)) (fof k (n % 2 ^ 2 ^ k))
theorem fval_lt : ∀ {k : Nat} (a : F k), fval a < 2 ^ 2 ^ k
  | _, .bit a => by cases a <;> decide
  | _, .pair (k := k) a1 a0 => by
    have h1 := fval_lt a1
    have h0 := fval_lt a0
    rw [sq_pow]
    show 2 ^ 2 ^ k * fval a1 + fval a0 < _
    generalize 2 ^ 2 ^ k = D at *
    calc D * fval a1 + fval a0 < D * fval a1 + D := by omega
      _ = D * (fval a1 + 1) := by rw [Nat.mul_add, Nat.mul_one]
      _ ≤ D * D := Nat.mul_le_mul_left _ h1
theorem fval_div {k : Nat} (a1 a0 : F k) : fval (F.pair a1 a0) / 2 ^ 2 ^ k = fval a1 := by
  show (2 ^ 2 ^ k * fval a1 + fval a0) / 2 ^ 2 ^ k = _
  rw [Nat.mul_add_div (Nat.two_pow_pos _), Nat.div_eq_of_lt (fval_lt a0), Nat.add_zero]
theorem fval_mod {k : Nat} (a1 a0 : F k) : fval (F.pair a1 a0) % 2 ^ 2 ^ k = fval a0 := by
  show (2 ^ 2 ^ k * fval a1 + fval a0) % 2 ^ 2 ^ k = _
  rw [Nat.mul_add_mod, Nat.mod_eq_of_lt (fval_lt a0)]
theorem fof_val : ∀ {k : Nat} (a : F k), fof k (fval a) = a
  | _, .bit a => by cases a <;> rfl
  | _, .pair (k := k) a1 a0 => by
    show F.pair (fof k (fval (F.pair a1 a0) / 2 ^ 2 ^ k)) (fof k (fval (F.pair a1 a0) % 2 ^ 2 ^ k)) = .pair a1 a0
    rw [fval_div, fval_mod, fof_val a1, fof_val a0]
theorem fval_of : ∀ {k : Nat} (n : Nat), n < 2 ^ 2 ^ k → fval (fof k n) = n
  | 0, n, h => by
    have h' : n < 2 := h
    have : n = 0 ∨ n = 1 := by omega
    rcases this with rfl | rfl <;> rfl
  | k + 1, n, h => by
    show 2 ^ 2 ^ k * fval (fof k (n / 2 ^ 2 ^ k)) + fval (fof k (n % 2 ^ 2 ^ k)) = n
    rw [sq_pow] at h
    rw [fval_of _ (Nat.div_lt_of_lt_mul h), fval_of _ (Nat.mod_lt _ (Nat.two_pow_pos _))]
    exact Nat.div_add_mod _ _
theorem fval_inj {k : Nat} {a b : F k} (h : fval a = fval b) : a = b := by rw [← fof_val a, h, fof_val]
theorem xor_pair (i a1 a0 b1 b0 : Nat) (ha : a0 < 2 ^ i) (hb : b0 < 2 ^ i) : (2 ^ i * a1 + a0) ^^^ (2 ^ i * b1 + b0) = 2 ^ i * (a1 ^^^ b1) + (a0 ^^^ b0) := by
  apply Nat.eq_of_testBit_eq
  intro j
  have hx := Nat.xor_lt_two_pow ha hb
  rw [Nat.testBit_xor, Nat.testBit_two_pow_mul_add _ ha, Nat.testBit_two_pow_mul_add _ hb, Nat.testBit_two_pow_mul_add _ hx]
  split <;> simp [Nat.testBit_xor]
theorem fval_add : ∀ {k : Nat} (a b : F k), fval (a + b) = fval a ^^^ fval b
  | _, .bit a, .bit b => by cases a <;> cases b <;> rfl
  | _, .pair (k := k) a1 a0, .pair b1 b0 => by
    rw [add_mk]
    show 2 ^ 2 ^ k * fval (a1 + b1) + fval (a0 + b0) = (2 ^ 2 ^ k * fval a1 + fval a0) ^^^ (2 ^ 2 ^ k * fval b1 + fval b0)
    rw [xor_pair _ _ _ _ _ (fval_lt a0) (fval_lt b0), fval_add, fval_add]
theorem fval_zero : ∀ k : Nat, fval (0 : F k) = 0
  | 0 => rfl
  | k + 1 => by
    show 2 ^ 2 ^ k * fval (0 : F k) + fval (0 : F k) = 0
    rw [fval_zero k, Nat.mul_zero]
theorem fval_one : ∀ k : Nat, fval (1 : F k) = 1
  | 0 => rfl
  | k + 1 => by
    show 2 ^ 2 ^ k * fval (0 : F k) + fval (1 : F k) = 1
    rw [fval_zero k, fval_one k, Nat.mul_zero]
theorem fval_h : ∀ k : Nat, fval (fh k) = 2 ^ 2 ^ k / 2
  | 0 => rfl
  | k + 1 => by
    show 2 ^ 2 ^ k * fval (fh k) + fval (0 : F k) = 2 ^ 2 ^ (k + 1) / 2
    rw [fval_zero, fval_h k, sq_pow, Nat.add_zero]
    obtain ⟨d, hd⟩ : ∃ d, 2 ^ 2 ^ k = 2 * d := ⟨2 ^ (2 ^ k - 1), by rw [← Nat.pow_succ']; congr 1; have := Nat.one_le_two_pow (n := k); omega⟩
    rw [hd, Nat.mul_div_cancel_left _ (by decide), show 2 * d * (2 * d) = 2 * (2 * d * d) by rw [Nat.mul_assoc 2 d (2 * d), Nat.mul_comm d (2 * d)], Nat.mul_div_cancel_left _ (by decide)]
theorem fval_mul : ∀ {k : Nat} (a b : F k), fval (a * b) = nm k (fval a) (fval b)
  | _, .bit a, .bit b => by cases a <;> cases b <;> rfl
  | _, .pair (k := k) a1 a0, .pair b1 b0 => by
    rw [mul_mk]
    show 2 ^ 2 ^ k * fval (a1 * b1 + a1 * b0 + a0 * b1) + fval (a0 * b0 + a1 * b1 * fh k) = _
    simp only [nm, fval_div, fval_mod, fval_add, fval_mul, fval_h]
theorem fsqn_mul {k : Nat} (n : Nat) (a b : F k) : fsqn n (a * b) = fsqn n a * fsqn n b := by rw [fsqn_pow, fsqn_pow, fsqn_pow, fpow_mul]
theorem fsqn_fsqn {k : Nat} (m : Nat) : ∀ (n : Nat) (a : F k), fsqn (m + n) a = fsqn m (fsqn n a)
  | 0, a => rfl
  | n + 1, a => fsqn_fsqn m n (a * a)
theorem low_add {k : Nat} (a b : F k) : F.pair 0 a + F.pair 0 b = F.pair 0 (a + b) := by rw [add_mk, fadd_self]
theorem low_mul {k : Nat} (a b : F k) : F.pair 0 a * F.pair 0 b = F.pair 0 (a * b) := by
  rw [mul_mk]; simp only [fzero_mul, fmul_zero, fadd_zero]
theorem fsqn_low {k : Nat} : ∀ (n : Nat) (a : F k), fsqn n (F.pair 0 a) = F.pair 0 (fsqn n a)
  | 0, a => rfl
  | n + 1, a => by rw [fsqn, low_mul, fsqn_low n]; rfl
theorem fsqn_x {k : Nat} : ∀ n : Nat, ∃ c : F k, fsqn n (F.pair 1 0) = F.pair 1 0 + F.pair 0 c
  | 0 => ⟨0, (fadd_zero _).symm⟩
  | n + 1 => by
    obtain ⟨c, hc⟩ := fsqn_x (k := k) n
    refine ⟨c + fsqn n (fh k), ?_⟩
    have e : F.pair (1 : F k) 0 * F.pair 1 0 = F.pair 1 0 + F.pair 0 (fh k) := by
      rw [mul_mk, add_mk]; simp only [fzero_mul, fmul_zero, fadd_zero, fone_mul, fzero_add]
    rw [fsqn, e, fsqn_add, hc, fsqn_low, fadd_assoc, low_add]
theorem fsqn_self : ∀ {k : Nat} (a : F k), fsqn (2 ^ k) a = a
  | _, .bit a => by cases a <;> rfl
  | _, .pair (k := k) a1 a0 => by
    have e : F.pair a1 a0 = F.pair 0 a1 * F.pair 1 0 + F.pair 0 a0 := by
      rw [mul_mk, add_mk]; simp only [fzero_mul, fmul_zero, fadd_zero, fmul_one, fzero_add]
    obtain ⟨c, hc⟩ := fsqn_x (k := k) (2 ^ k)
    rw [Nat.pow_succ, Nat.mul_two, fsqn_fsqn, e]
    simp only [fsqn_add, fsqn_mul, fsqn_low, fsqn_self a1, fsqn_self a0, hc, fsqn_self c]
    rw [fadd_assoc (F.pair 1 0), fadd_self, fadd_zero]
end Go.Proofs.Ytadfobooofkelaa.Nim

namespace Go.Proofs.Ytadfobooofkelaa.X
set_option linter.unusedSimpArgs false
set_option linter.unusedVariables false
open Go.RowKit Go.Proofs.YtadfobooofkelaaW.PrintWords Go.Proofs.YtadfobooofkelaaW.PrintLast Go.Proofs.YtadfobooofkelaaW.PrintMore Go.Proofs.Ytadfobooofkelaa.Nim
theorem p_w64 {x : Int} (h : -9223372036854775808 ≤ x) (h2 : x ≤ 9223372036854775807) : wrap64 x = x := by unfold wrap64; omega
theorem wrap_u32 (n : Int) : IntKind.u32.wrap n = n % 4294967296 := by simp [IntKind.wrap, IntKind.bits, IntKind.signed]
theorem p_pos {α : Type} {c : Prop} [Decidable c] {g f : Nat → Option α} {r : α} (h : c) (e : Ev g r) : Ev (fun k => if c then g k else f k) r := Ev.congr (fun _ => if_pos h) e
theorem p_neg {α : Type} {c : Prop} [Decidable c] {g f : Nat → Option α} {r : α} (h : ¬ c) (e : Ev f r) : Ev (fun k => if c then g k else f k) r := Ev.congr (fun _ => if_neg h) e
theorem and32 (a b : Nat) (ha : a < 2 ^ 32) (hb : b < 2 ^ 32) : Go.bits .and .u32 (a : Int) (b : Int) = ((a &&& b : Nat) : Int) := by
  have hr : (a &&& b) < 2 ^ 32 := Nat.and_lt_two_pow _ hb
  simp only [Go.bits, BitVec.ofInt_natCast, BitVec.toNat_and, BitVec.toNat_ofNat]
  rw [wrap_u32]
  have e1 : a % 2 ^ IntKind.u32.bits = a := Nat.mod_eq_of_lt ha
  have e2 : b % 2 ^ IntKind.u32.bits = b := Nat.mod_eq_of_lt hb
  rw [e1, e2]
  omega
theorem or32 (a b : Nat) (ha : a < 2 ^ 32) (hb : b < 2 ^ 32) : Go.bits .or .u32 (a : Int) (b : Int) = ((a ||| b : Nat) : Int) := by
  have hr : (a ||| b) < 2 ^ 32 := Nat.or_lt_two_pow ha hb
  simp only [Go.bits, BitVec.ofInt_natCast, BitVec.toNat_or, BitVec.toNat_ofNat]
  rw [wrap_u32]
  have e1 : a % 2 ^ IntKind.u32.bits = a := Nat.mod_eq_of_lt ha
  have e2 : b % 2 ^ IntKind.u32.bits = b := Nat.mod_eq_of_lt hb
  rw [e1, e2]
  omega
theorem xor32 (a b : Nat) (ha : a < 2 ^ 32) (hb : b < 2 ^ 32) : Go.bits .xor .u32 (a : Int) (b : Int) = ((a ^^^ b : Nat) : Int) := by
  have hr : (a ^^^ b) < 2 ^ 32 := Nat.xor_lt_two_pow ha hb
  simp only [Go.bits, BitVec.ofInt_natCast, BitVec.toNat_xor, BitVec.toNat_ofNat]
  rw [wrap_u32]
  have e1 : a % 2 ^ IntKind.u32.bits = a := Nat.mod_eq_of_lt ha
  have e2 : b % 2 ^ IntKind.u32.bits = b := Nat.mod_eq_of_lt hb
  rw [e1, e2]
  omega
theorem shr32 (a h : Nat) (hh : h ≤ 32) : shr .u32 (a : Int) (h : Int) = ((a / 2 ^ h : Nat) : Int) := by
  unfold shr
  rw [show min ((h : Int)).toNat IntKind.u32.bits = h by simp [IntKind.bits]; omega]
  simp
theorem shl32 (a h : Nat) (hh : h ≤ 32) (hb : a * 2 ^ h < 2 ^ 32) : shl .u32 (a : Int) (h : Int) = ((a * 2 ^ h : Nat) : Int) := by
  unfold shl
  rw [show min ((h : Int)).toNat IntKind.u32.bits = h by simp [IntKind.bits]; omega, wrap_u32]
  have : ((a : Int) * 2 ^ h) = ((a * 2 ^ h : Nat) : Int) := by simp
  rw [this]
  omega
theorem mask32 (a h : Nat) (ha : a < 2 ^ 32) (hh : h ≤ 16) : Go.bits .and .u32 (a : Int) (((shl .u32 1 (h : Int)) - 1) % 4294967296) = ((a % 2 ^ h : Nat) : Int) := by
  have hp : 2 ^ h ≤ 2 ^ 16 := Nat.pow_le_pow_right (by decide) hh
  have hp0 := Nat.two_pow_pos h
  have e := shl32 1 h (by omega) (by omega)
  rw [show ((1 : Nat) : Int) = 1 from rfl] at e
  rw [e, show (((1 * 2 ^ h : Nat) : Int) - 1) % 4294967296 = ((2 ^ h - 1 : Nat) : Int) by omega, and32 a _ ha (by omega), Nat.and_two_pow_sub_one_eq_mod]
theorem join32 (s t h : Nat) (hh : h ≤ 8) (hs : s < 2 ^ h) (ht : t < 2 ^ h) : Go.bits .or .u32 (shl .u32 (s : Int) (h : Int)) (t : Int) = ((2 ^ h * s + t : Nat) : Int) := by
  have hp : 2 ^ h ≤ 2 ^ 8 := Nat.pow_le_pow_right (by decide) hh
  have hb : s * 2 ^ h < 2 ^ 32 := by
    calc s * 2 ^ h ≤ 2 ^ 8 * 2 ^ 8 := Nat.mul_le_mul (by omega) hp
      _ < 2 ^ 32 := by decide
  rw [shl32 s h (by omega) hb, or32 _ _ hb (by omega), Nat.mul_comm s, Nat.two_pow_add_eq_or_of_lt ht]
theorem join32' (s t h : Nat) (hh : h ≤ 8) (hs : s < 2 ^ h) (ht : t < 2 ^ h) : Go.bits .or .u32 (t : Int) (shl .u32 (s : Int) (h : Int)) = ((2 ^ h * s + t : Nat) : Int) := by
  have hp : 2 ^ h ≤ 2 ^ 8 := Nat.pow_le_pow_right (by decide) hh
  have hb : s * 2 ^ h < 2 ^ 32 := by
    calc s * 2 ^ h ≤ 2 ^ 8 * 2 ^ 8 := Nat.mul_le_mul (by omega) hp
      _ < 2 ^ 32 := by decide
  rw [shl32 s h (by omega) hb, or32 _ _ (by omega) hb, Nat.or_comm, Nat.mul_comm s, Nat.two_pow_add_eq_or_of_lt ht]
theorem halfbits (j : Nat) (hj : j ≤ 3) : wrap64 (Int.tdiv ((2 ^ (j + 1) : Nat) : Int) 2) = ((2 ^ j : Nat) : Int) := by
  rcases (show j = 0 ∨ j = 1 ∨ j = 2 ∨ j = 3 by omega) with rfl | rfl | rfl | rfl <;> decide +kernel
theorem fv_lt32 {j : Nat} (hj : j ≤ 4) (a : F j) : fval a < 2 ^ 32 := by
  have h := fval_lt a
  have h4 : 2 ^ j ≤ 2 ^ 4 := Nat.pow_le_pow_right (by decide) hj
  have : 2 ^ 2 ^ j ≤ 2 ^ 16 := Nat.pow_le_pow_right (by decide) h4
  omega
theorem pow_le8 (j : Nat) (hj : j ≤ 3) : 2 ^ j ≤ 8 := show 2 ^ j ≤ 2 ^ 3 from Nat.pow_le_pow_right (by decide) hj
theorem pow_nn (j : Nat) : (0 : Int) ≤ ((2 ^ j : Nat) : Int) := Int.natCast_nonneg _
theorem half_ev : ∀ (j : Nat) (a : F j), j ≤ 4 → Ev (fun k => impl_half.f k (fval a : Nat) ((2 ^ j : Nat) : Int)) ((fval (a * fh j) : Nat) : Int)
  | 0, a, _ => by
    refine Ev.step (f := fun k => impl_half.j0 k ((fval a : Nat) : Int) ((2 ^ 0 : Nat) : Int) true) (fun k => by simp only [impl_half.f]; rw [if_pos (by decide)]) ?_
    refine Ev.step (f := fun _ => some ((fval a : Nat) : Int)) (fun k => by simp only [impl_half.j0, if_true]) ?_
    rw [show a * fh 0 = a from fmul_one a]
    exact Ev.now _
  | j + 1, .pair a1 a0, hj => by
    have hj3 : j ≤ 3 := by omega
    have h8 := pow_le8 j hj3
    have hne : ¬ ((2 ^ (j + 1) : Nat) : Int) = 1 := by
      have : 2 ≤ 2 ^ (j + 1) := by rw [Nat.pow_succ]; have := Nat.one_le_two_pow (n := j); omega
      omega
    have ha := fv_lt32 hj (.pair a1 a0)
    refine Ev.step (fun k => by simp only [impl_half.f]; rfl) (p_neg hne ?_)
    by_cases h0 : fval (F.pair a1 a0) = 0
    · have hz : F.pair a1 a0 = 0 := fval_inj (by rw [h0, fval_zero])
      refine Ev.step (f := fun _ => some ((fval (F.pair a1 a0) : Nat) : Int)) (fun k => ?_) ?_
      · simp only [impl_half.j0]; rw [if_pos (by rw [h0]; rfl)]
      · rw [hz, fzero_mul]; exact Ev.now _
    · refine Ev.step (f := fun k => (impl_half.f k ((fval a1 : Nat) : Int) ((2 ^ j : Nat) : Int)).bind fun t101 => (impl_half.f k t101 ((2 ^ j : Nat) : Int)).bind fun t102 => (impl_half.f k ((fval a0 : Nat) : Int) ((2 ^ j : Nat) : Int)).bind fun t103 => some (Go.bits .or .u32 t102 (shl .u32 (Go.bits .xor .u32 t101 t103) ((2 ^ j : Nat) : Int)))) (fun k => ?_) (Ev.bind (half_ev j a1 (by omega)) (Ev.bind (half_ev j (a1 * fh j) (by omega)) (Ev.bind (half_ev j a0 (by omega)) ?_)))
      · simp only [impl_half.j0]
        rw [if_neg (by simpa using h0), halfbits j hj3, if_pos (pow_nn j), shr32 _ _ (by omega), mask32 _ _ ha (by omega), fval_div, fval_mod]
      · have l1 := fv_lt32 (by omega) (a1 * fh j)
        have l2 := fv_lt32 (by omega) (a0 * fh j)
        rw [xor32 _ _ l1 l2, ← fval_add, join32' _ _ _ h8 (fval_lt _) (fval_lt _)]
        have e : F.pair a1 a0 * fh (j + 1) = F.pair (a1 * fh j + a0 * fh j) (a1 * fh j * fh j) := by
          show F.pair a1 a0 * F.pair (fh j) 0 = _
          rw [mul_mk]
          simp only [fmul_zero, fadd_zero, fzero_add]
        rw [e]
        exact Ev.now _
theorem product_ev : ∀ (j : Nat) (a b : F j), j ≤ 4 → Ev (fun k => impl_product.f k (fval a : Nat) (fval b : Nat) ((2 ^ j : Nat) : Int)) ((fval (a * b) : Nat) : Int) := by
  intro j
  induction j with
  | zero =>
    intro a b _
    cases a with | bit a =>
    cases b with | bit b =>
    have z : ∀ a b : Bool, impl_product.f 3 ((fval (F.bit a) : Nat) : Int) ((fval (F.bit b) : Nat) : Int) ((2 ^ 0 : Nat) : Int) = some ((fval (F.bit a * F.bit b) : Nat) : Int) := by decide +kernel
    exact Ev.of (fun k => impl_product.mono _ _ _ k) (z a b)
  | succ j ih =>
    intro a b hj
    have hj3 : j ≤ 3 := by omega
    have h8 := pow_le8 j hj3
    have ha := fv_lt32 hj a
    have hb := fv_lt32 hj b
    by_cases a0 : fval a = 0
    · have hz : a = 0 := fval_inj (by rw [a0, fval_zero])
      refine Ev.step (f := fun k => impl_product.j0 k ((fval a : Nat) : Int) ((fval b : Nat) : Int) ((2 ^ (j + 1) : Nat) : Int) true) (fun k => by simp only [impl_product.f]; rw [if_pos (by omega)]) (Ev.step (f := fun _ => some 0) (fun k => by simp only [impl_product.j0, if_true]) ?_)
      rw [hz, fzero_mul, fval_zero]; exact Ev.now _
    refine Ev.step (f := fun k => impl_product.j0 k ((fval a : Nat) : Int) ((fval b : Nat) : Int) ((2 ^ (j + 1) : Nat) : Int) (((fval b : Nat) : Int) == 0)) (fun k => by simp only [impl_product.f]; rw [if_neg (by omega)]) ?_
    by_cases b0 : fval b = 0
    · have hz : b = 0 := fval_inj (by rw [b0, fval_zero])
      refine Ev.step (f := fun _ => some 0) (fun k => by simp only [impl_product.j0]; rw [if_pos (by rw [b0]; rfl)]) ?_
      rw [hz, fmul_zero, fval_zero]; exact Ev.now _
    refine Ev.step (fun k => by simp only [impl_product.j0]; rw [if_neg (by simpa using b0)]) ?_
    by_cases a1 : fval a = 1
    · have hz : a = 1 := fval_inj (by rw [a1, fval_one])
      refine p_pos (by omega) ?_
      rw [hz, fone_mul]; exact Ev.now _
    refine p_neg (by omega) ?_
    by_cases b1 : fval b = 1
    · have hz : b = 1 := fval_inj (by rw [b1, fval_one])
      refine p_pos (by omega) ?_
      rw [hz, fmul_one]; exact Ev.now _
    refine p_neg (by omega) ?_
    cases a with | pair x1 x0 =>
    cases b with | pair y1 y0 =>
    rw [halfbits j hj3]
    refine p_pos (pow_nn j) ?_
    rw [shr32 _ _ (by omega), shr32 _ _ (by omega), mask32 _ _ ha (by omega), mask32 _ _ hb (by omega), fval_div, fval_mod, fval_div, fval_mod]
    have full : Ev (fun k => impl_product.j1 k ((2 ^ j : Nat) : Int) ((fval x0 : Nat) : Int) ((fval x1 : Nat) : Int) ((fval y0 : Nat) : Int) ((fval y1 : Nat) : Int) false) ((fval (F.pair x1 x0 * F.pair y1 y0) : Nat) : Int) := by
      refine Ev.step (fun k => by simp only [impl_product.j1, Bool.false_eq_true, if_false]; rfl) (Ev.bind (ih x1 y1 (by omega)) (Ev.bind (ih x0 y0 (by omega)) ?_))
      rw [xor32 _ _ (fv_lt32 (by omega) x0) (fv_lt32 (by omega) x1), xor32 _ _ (fv_lt32 (by omega) y0) (fv_lt32 (by omega) y1), ← fval_add, ← fval_add]
      refine Ev.bind (ih (x0 + x1) (y0 + y1) (by omega)) (p_pos (pow_nn j) (Ev.bind (half_ev j (x1 * y1) (by omega)) ?_))
      rw [xor32 _ _ (fv_lt32 (by omega) _) (fv_lt32 (by omega) _), ← fval_add, join32 _ _ _ h8 (fval_lt _) (fval_lt _)]
      have hp : (2 ^ 2 ^ j * fval ((x0 + x1) * (y0 + y1) + x0 * y0) + fval (x0 * y0)) = fval (F.pair ((x0 + x1) * (y0 + y1) + x0 * y0) (x0 * y0)) := rfl
      have hq : fval (x1 * y1 * fh j) = fval (F.pair 0 (x1 * y1 * fh j)) := by
        show _ = 2 ^ 2 ^ j * fval (0 : F j) + fval (x1 * y1 * fh j)
        rw [fval_zero, Nat.mul_zero, Nat.zero_add]
      rw [hp, hq, xor32 _ _ (fv_lt32 hj _) (fv_lt32 hj _), ← fval_add]
      have e : F.pair ((x0 + x1) * (y0 + y1) + x0 * y0) (x0 * y0) + F.pair 0 (x1 * y1 * fh j) = F.pair x1 x0 * F.pair y1 y0 := by
        rw [add_mk, mul_mk, fadd_zero]
        congr 1
        simp only [fadd_mul, fmul_add]
        have : ∀ a b c d : F j, a + b + (c + d) + a = d + b + c := fun a b c d => by
          simp only [fadd_assoc, fadd_comm, fadd_left_comm, fadd_cancel, fadd_self, fadd_zero, fzero_add]
        exact this (x0 * y0) (x1 * y0) (x0 * y1) (x1 * y1)
      rw [e]
      exact Ev.now _
    by_cases hx : fval x1 = 0
    · refine p_pos (by omega) ?_
      by_cases hy : fval y1 = 0
      · have zx : x1 = 0 := fval_inj (by rw [hx, fval_zero])
        have zy : y1 = 0 := fval_inj (by rw [hy, fval_zero])
        refine Ev.step (fun k => by simp only [impl_product.j1]; rw [if_pos (by rw [hy]; rfl)]) (Ev.bind (ih x0 y0 (by omega)) ?_)
        have e : fval (F.pair x1 x0 * F.pair y1 y0) = fval (x0 * y0) := by
          rw [zx, zy, low_mul]
          show 2 ^ 2 ^ j * fval (0 : F j) + fval (x0 * y0) = _
          rw [fval_zero, Nat.mul_zero, Nat.zero_add]
        rw [e]
        exact Ev.now _
      · rw [show (((fval y1 : Nat) : Int) == 0) = false by simpa using hy]
        exact full
    · exact p_neg (by omega) full
def tI (a : F 4) : Int := (fval a : Nat)
theorem tI_lt (a : F 4) : 0 ≤ tI a ∧ tI a < 65536 := by have := fval_lt a; unfold tI; omega
theorem times_evF (a b : F 4) : Ev (fun k => impl_times.f k (tI a) (tI b)) (tI (a * b)) := by
  unfold impl_times.f
  have h1 := tI_lt a
  have h2 := tI_lt b
  have h3 := tI_lt (a * b)
  rw [show tI a % 4294967296 = tI a by omega, show tI b % 4294967296 = tI b by omega]
  refine Ev.bind (product_ev 4 a b (by decide)) ?_
  rw [show IntKind.u16.wrap ((fval (a * b) : Nat) : Int) = tI (a * b) by rw [Nim.wrap_u16]; show tI (a * b) % 65536 = _; omega]
  exact Ev.now _
end Go.Proofs.Ytadfobooofkelaa.X

namespace Go.Proofs.Ytadfobooofkelaa.X
open Go.RowKit Go.Proofs.YtadfobooofkelaaW.PrintWords Go.Proofs.YtadfobooofkelaaW.PrintLast Go.Proofs.YtadfobooofkelaaW.PrintMore Go.Proofs.Ytadfobooofkelaa.Nim
set_option linter.unusedSimpArgs false
set_option linter.unusedVariables false
theorem ev_some {α β : Type} {g : Option α} {f : Nat → α → Option β} {a : α} {r : β} (h : g = some a) (e : Ev (fun n => f n a) r) : Ev (fun n => g.bind (f n)) r := Ev.bind (g := fun _ => g) ⟨0, fun _ _ => h⟩ e
theorem tI_zero : tI 0 = 0 := by unfold tI; rw [fval_zero]; rfl
theorem tI_one : tI 1 = 1 := by unfold tI; rw [fval_one]; rfl
theorem tI_inj {a b : F 4} (h : tI a = tI b) : a = b := fval_inj (by unfold tI at h; omega)
theorem tI_eq0 {a : F 4} : tI a = 0 ↔ a = 0 := ⟨fun h => tI_inj (h.trans tI_zero.symm), fun h => by rw [h, tI_zero]⟩
theorem tI_xor (a b : F 4) : Go.bits .xor .u16 (tI a) (tI b) = tI (a + b) := by
  have h1 := tI_lt a
  have h2 := tI_lt b
  rw [Nim.xor16 _ _ h1.1 h1.2 h2.1 h2.2]
  unfold tI
  rw [Int.toNat_natCast, Int.toNat_natCast, fval_add]
theorem tI_of (x : Int) (h1 : 0 ≤ x) (h2 : x < 65536) : tI (fof 4 x.toNat) = x := by
  unfold tI
  rw [fval_of x.toNat (by show x.toNat < 65536; omega)]
  omega
theorem times_spec (a b : F 4) : spec_l01Times.f (tI a) (tI b) = some (tI (a * b)) := by
  have h1 := tI_lt a
  have h2 := tI_lt b
  unfold spec_l01Times.f
  rw [if_pos ⟨h1.1, h1.2, h2.1, h2.2⟩]
  unfold Nim.nmI tI
  rw [Int.toNat_natCast, Int.toNat_natCast, fval_mul]
abbrev tL (p : List (F 4)) : List Int := p.map tI
theorem and1_64 (m : Nat) (h : m < 2 ^ 62) : Go.bits .and .i64 (m : Int) 1 = ((m % 2 : Nat) : Int) := by
  have e : Go.bits .and .i64 (m : Int) 1 = IntKind.i64.wrap (((m % 2 ^ 64) &&& 1 : Nat) : Int) := by
    simp only [Go.bits, BitVec.ofInt_natCast, BitVec.toNat_and, BitVec.toNat_ofNat]
    rfl
  rw [e, Nat.and_one_is_mod]
  have : ((m % 2 ^ 64 % 2 : Nat) : Int) = ((m % 2 : Nat) : Int) := by omega
  rw [this]
  have h2 : m % 2 < 2 := Nat.mod_lt _ (by decide)
  have : m % 2 = 0 ∨ m % 2 = 1 := by omega
  rcases this with h | h <;> rw [h] <;> decide +kernel
theorem odd_step (out a : F 4) (m : Nat) (h : m % 2 = 1) : out * a * fpow (a * a) (m / 2) = out * fpow a m := by
  have e : m = 2 * (m / 2) + 1 := by omega
  rw [← fpow_two, fmul_assoc]
  conv => rhs; rw [e]
  rfl
theorem even_step (out a : F 4) (m : Nat) (h : m % 2 = 0) : out * fpow (a * a) (m / 2) = out * fpow a m := by
  have e : m = 2 * (m / 2) := by omega
  rw [← fpow_two]
  conv => rhs; rw [e]
theorem specPower_l0 : ∀ (m : Nat) (a out : F 4), m < 2 ^ 62 → Ev (fun k => spec_l01Power.l0 k (tI a) (m : Int) (tI out)) (tI (out * fpow a m)) := by
  intro m
  induction m using Nat.strongRecOn with
  | ind m ih =>
    intro a out hm
    by_cases h0 : m = 0
    · subst h0
      refine Ev.step (f := fun _ => some (tI out)) (fun k => ?_) ?_
      · simp only [spec_l01Power.l0]; rw [if_neg (by omega)]
      · rw [show out * fpow a 0 = out from fmul_one out]; exact Ev.now _
    · have e1 : Int.tmod (m : Int) 2 = ((m % 2 : Nat) : Int) := by rw [Int.tmod_eq_emod_of_nonneg (by omega)]; omega
      have e2 : wrap64 (Int.tdiv (m : Int) 2) = ((m / 2 : Nat) : Int) := by rw [Int.tdiv_eq_ediv_of_nonneg (by omega), p_w64 (by omega) (by omega)]; omega
      by_cases hp : m % 2 = 1
      · have := ih (m / 2) (by omega) (a * a) (out * a) (by omega)
        rw [odd_step out a m hp] at this
        refine Ev.step (fun k => ?_) this
        simp only [spec_l01Power.l0, times_spec, Option.bind_some, e1, e2]
        rw [if_pos (by omega), if_pos (by omega)]
      · have := ih (m / 2) (by omega) (a * a) out (by omega)
        rw [even_step out a m (by omega)] at this
        refine Ev.step (fun k => ?_) this
        simp only [spec_l01Power.l0, times_spec, Option.bind_some, e1, e2]
        rw [if_pos (by omega), if_neg (by omega)]
theorem implPower_l0 : ∀ (m : Nat) (a out : F 4), m < 2 ^ 62 → Ev (fun k => impl_power.l0 k (tI a) (m : Int) (tI out)) (tI (out * fpow a m)) := by
  intro m
  induction m using Nat.strongRecOn with
  | ind m ih =>
    intro a out hm
    by_cases h0 : m = 0
    · subst h0
      refine Ev.step (f := fun _ => some (tI out)) (fun k => ?_) ?_
      · simp only [impl_power.l0]; rw [if_neg (by omega)]
      · rw [show out * fpow a 0 = out from fmul_one out]; exact Ev.now _
    · have e1 := and1_64 m hm
      have e2 : (m : Int) / 2 = ((m / 2 : Nat) : Int) := by omega
      by_cases hp : m % 2 = 1
      · have := ih (m / 2) (by omega) (a * a) (out * a) (by omega)
        rw [odd_step out a m hp] at this
        refine Ev.step (f := fun k => (impl_times.f k (tI out) (tI a)).bind fun t101 => (impl_times.f k (tI a) (tI a)).bind fun t102 => impl_power.l0 k t102 ((m / 2 : Nat) : Int) t101) (fun k => ?_) (Ev.bind (times_evF out a) (Ev.bind (times_evF a a) this))
        simp only [impl_power.l0, e1, e2]
        rw [if_pos (by omega), if_pos (by omega)]
      · have := ih (m / 2) (by omega) (a * a) out (by omega)
        rw [even_step out a m (by omega)] at this
        refine Ev.step (f := fun k => (impl_times.f k (tI a) (tI a)).bind fun t102 => impl_power.l0 k t102 ((m / 2 : Nat) : Int) (tI out)) (fun k => ?_) (Ev.bind (times_evF a a) this)
        simp only [impl_power.l0, e1, e2]
        rw [if_pos (by omega), if_neg (by omega)]
def finvF (a : F 4) : F 4 := fpow a 65534
theorem specInv_ev (a : F 4) : Ev (fun k => spec_l01Inverse.f k (tI a)) (tI (finvF a)) := by
  unfold spec_l01Inverse.f spec_l01Power.f
  have := specPower_l0 65534 a 1 (by decide)
  rw [fone_mul, tI_one] at this
  exact Ev.bind this (Ev.now _)
theorem implInv_ev (a : F 4) : Ev (fun k => impl_inverse.f k (tI a)) (tI (finvF a)) := by
  unfold impl_inverse.f impl_power.f
  by_cases h : a = 0
  · subst h
    refine p_pos tI_zero ?_
    have : finvF (0 : F 4) = 0 := by show (0 : F 4) * fpow 0 65533 = 0; rw [fzero_mul]
    rw [this, tI_zero]; exact Ev.now _
  · refine p_neg (fun e => h (tI_eq0.1 e)) ?_
    have := implPower_l0 65534 a 1 (by decide)
    rw [fone_mul, tI_one] at this
    exact Ev.bind this (Ev.now _)
end Go.Proofs.Ytadfobooofkelaa.X

namespace Go.Proofs.Ytadfobooofkelaa.X
open Go.RowKit Go.Proofs.YtadfobooofkelaaW.PrintWords Go.Proofs.YtadfobooofkelaaW.PrintLast Go.Proofs.YtadfobooofkelaaW.PrintMore Go.Proofs.Ytadfobooofkelaa.Nim
set_option linter.unusedSimpArgs false
set_option linter.unusedVariables false
abbrev P2 := Int × Int
def xr (a b : Int) : Int := Go.bits .xor .u16 a b
def redS : P2 → List P2 → P2
  | v, [] => v
  | v, b :: bs => if xr v.1 b.1 < v.1 then redS (xr v.1 b.1, xr v.2 b.2) bs else redS v bs
def swapAt (B : List P2) (i : Nat) : List P2 := (B.set i (B.getD (i - 1) (0, 0))).set (i - 1) (B.getD i (0, 0))
def bub : List P2 → Nat → List P2
  | B, 0 => B
  | B, i + 1 => if (B.getD (i + 1) (0, 0)).1 > (B.getD i (0, 0)).1 then bub (swapAt B (i + 1)) i else B
def own (k : Nat) : Int := shl .u16 1 (k : Int)
def rowOf (k : Nat) : Int := xr (own k) (nmI 4 (own k) (own k))
def nxt (k : Nat) (B : List P2) : List P2 := bub (B ++ [redS (rowOf k, own k) B]) B.length
def Bs : Nat → List P2
  | 0 => []
  | k + 1 => nxt (k + 1) (Bs k)
def rows (B : List P2) : List Int := B.map (·.1)
def froms (B : List P2) : List Int := B.map (·.2)
def imgs (B : List P2) : List S175 := B.map fun p => ⟨p.1, p.2⟩
theorem rows_rd (B : List P2) (i : Nat) : rd (rows B) (i : Int) = (B.getD i (0, 0)).1 := by
  simp only [rd, rows, Int.toNat_natCast, List.getD_eq_getElem?_getD, List.getElem?_map]
  cases B[i]? <;> rfl
theorem froms_rd (B : List P2) (i : Nat) : rd (froms B) (i : Int) = (B.getD i (0, 0)).2 := by
  simp only [rd, froms, Int.toNat_natCast, List.getD_eq_getElem?_getD, List.getElem?_map]
  cases B[i]? <;> rfl
theorem imgs_rd (B : List P2) (i : Nat) : rd_T175 (imgs B) (i : Int) = ⟨(B.getD i (0, 0)).1, (B.getD i (0, 0)).2⟩ := by
  simp only [rd_T175, imgs, Int.toNat_natCast, List.getD_eq_getElem?_getD, List.getElem?_map]
  cases B[i]? <;> rfl
theorem rows_len (B : List P2) : (rows B).length = B.length := by simp [rows]
theorem froms_len (B : List P2) : (froms B).length = B.length := by simp [froms]
theorem imgs_len (B : List P2) : (imgs B).length = B.length := by simp [imgs]
theorem rows_set (B : List P2) (i : Nat) (p : P2) : rows (B.set i p) = (rows B).set i p.1 := by simp [rows, List.map_set]
theorem froms_set (B : List P2) (i : Nat) (p : P2) : froms (B.set i p) = (froms B).set i p.2 := by simp [froms, List.map_set]
theorem drop_P2 (B : List P2) (i : Nat) (h : i < B.length) : B.drop i = B.getD i (0, 0) :: B.drop (i + 1) := by
  rw [List.drop_eq_getElem_cons h]
  simp [List.getD_eq_getElem?_getD, h]
theorem w64n (i : Nat) (h : i < 4611686018427387904) : wrap64 ((i : Int) + 1) = ((i + 1 : Nat) : Int) := by rw [p_w64 (by omega) (by omega)]; rfl
theorem shalf_l1 (x0 x6 x7 : Int) (B : List P2) (hB : B.length ≤ 20) (r : Int × Bool) : ∀ (d i : Nat) (v : P2), B.length - i = d → i ≤ B.length →
    Ev (fun k => spec_l01Half.l2 k x0 (rows (B ++ [redS v (B.drop i)])) (froms (B ++ [redS v (B.drop i)])) x6 x7 (B.length : Int)) r → Ev (fun k => spec_l01Half.l1 k x0 (rows B) (froms B) x6 x7 v.2 v.1 (i : Int)) r := by
  intro d
  induction d with
  | zero =>
    intro i v hd hi h
    have e : i = B.length := by omega
    subst e
    rw [List.drop_length, redS] at h
    refine Ev.step (fun k => ?_) h
    simp only [spec_l01Half.l1, rows_len, froms_len, Option.bind_some]
    rw [if_neg (by omega), if_pos (by omega), if_pos (by omega)]
    simp only [List.length_append, rows_len, List.length_singleton]
    rw [p_w64 (by omega) (by omega)]
    simp [rows, froms]
  | succ d ih =>
    intro i v hd hi h
    have hlt : i < B.length := by omega
    rw [drop_P2 B i hlt, redS] at h
    by_cases hc : xr v.1 (B.getD i (0, 0)).1 < v.1
    · rw [if_pos hc] at h
      refine Ev.step (fun k => ?_) (ih (i + 1) _ (by omega) (by omega) h)
      simp only [spec_l01Half.l1, rows_len, froms_len, rows_rd, froms_rd]
      rw [if_pos (by omega), if_pos (by omega), if_pos (show Go.bits .xor .u16 _ _ < _ from hc), if_pos (by omega), w64n i (by omega)]
      rfl
    · rw [if_neg hc] at h
      refine Ev.step (fun k => ?_) (ih (i + 1) _ (by omega) (by omega) h)
      simp only [spec_l01Half.l1, rows_len, froms_len, rows_rd, froms_rd]
      rw [if_pos (by omega), if_pos (by omega), if_neg (show ¬ Go.bits .xor .u16 _ _ < _ from hc), w64n i (by omega)]
theorem swap_len (B : List P2) (i : Nat) : (swapAt B i).length = B.length := by simp [swapAt]
theorem bub_len : ∀ (i : Nat) (B : List P2), (bub B i).length = B.length
  | 0, B => rfl
  | i + 1, B => by
    rw [bub]
    split
    · rw [bub_len i, swap_len]
    · rfl
theorem shalf_l2 (x0 x6 x7 : Int) (r : Int × Bool) : ∀ (i : Nat) (B : List P2), i < B.length → B.length ≤ 20 →
    Ev (fun k => spec_l01Half.l0 k x0 (rows (bub B i)) (froms (bub B i)) x6 (IntKind.u64.wrap (x7 + 1))) r → Ev (fun k => spec_l01Half.l2 k x0 (rows B) (froms B) x6 x7 (i : Int)) r
  | 0, B, hi, hl, h => by
    refine Ev.step (fun k => ?_) h
    simp only [spec_l01Half.l2]
    rw [if_neg (by omega)]
    rfl
  | i + 1, B, hi, hl, h => by
    have e1 : wrap64 (((i + 1 : Nat) : Int) - 1) = (i : Int) := by rw [p_w64 (by omega) (by omega)]; omega
    rw [bub] at h
    by_cases hc : (B.getD (i + 1) (0, 0)).1 > (B.getD i (0, 0)).1
    · rw [if_pos hc] at h
      refine Ev.step (fun k => ?_) (shalf_l2 x0 x6 x7 r i (swapAt B (i + 1)) (by rw [swap_len]; omega) (by rw [swap_len]; omega) h)
      simp only [spec_l01Half.l2, e1, rows_len, froms_len]
      simp only [rows_rd, froms_rd]
      rw [if_pos (by omega), if_pos (by omega), if_pos (by omega), if_pos (by omega), if_pos (by omega), if_pos hc, if_pos (by omega), if_pos (by omega)]
      simp only [Int.toNat_natCast, swapAt, rows_set, froms_set, Nat.add_sub_cancel]
    · rw [if_neg hc] at h
      refine Ev.step (fun k => ?_) h
      simp only [spec_l01Half.l2, e1, rows_len, froms_len]
      simp only [rows_rd, froms_rd]
      rw [if_pos (by omega), if_pos (by omega), if_pos (by omega), if_pos (by omega), if_pos (by omega), if_neg hc]
theorem shalf_l3 (B : List P2) (hB : B.length ≤ 20) : ∀ (d i : Nat) (v : P2), B.length - i = d → i ≤ B.length →
    Ev (fun k => spec_l01Half.l3 k v.1 (rows B) (froms B) v.2 (i : Int)) ((redS v (B.drop i)).2, (redS v (B.drop i)).1 == 0) := by
  intro d
  induction d with
  | zero =>
    intro i v hd hi
    have e : i = B.length := by omega
    subst e
    rw [List.drop_length, redS]
    refine Ev.step (f := fun _ => some (v.2, v.1 == 0)) (fun k => ?_) (Ev.now _)
    simp only [spec_l01Half.l3, rows_len]
    rw [if_neg (by omega)]
  | succ d ih =>
    intro i v hd hi
    have hlt : i < B.length := by omega
    rw [drop_P2 B i hlt, redS]
    by_cases hc : xr v.1 (B.getD i (0, 0)).1 < v.1
    · rw [if_pos hc]
      refine Ev.step (fun k => ?_) (ih (i + 1) _ (by omega) (by omega))
      simp only [spec_l01Half.l3, rows_len, froms_len, rows_rd, froms_rd]
      rw [if_pos (by omega), if_pos (by omega), if_pos (show Go.bits .xor .u16 _ _ < _ from hc), if_pos (by omega), w64n i (by omega)]
      rfl
    · rw [if_neg hc]
      refine Ev.step (fun k => ?_) (ih (i + 1) _ (by omega) (by omega))
      simp only [spec_l01Half.l3, rows_len, froms_len, rows_rd, froms_rd]
      rw [if_pos (by omega), if_pos (by omega), if_neg (show ¬ Go.bits .xor .u16 _ _ < _ from hc), w64n i (by omega)]
theorem Bs_len : ∀ k, (Bs k).length = k
  | 0 => rfl
  | k + 1 => by rw [Bs, nxt, bub_len]; simp [Bs_len k]
theorem shalf_l0 (x0 : Int) (r : Int × Bool) (hr : Ev (fun k => spec_l01Half.l3 k x0 (rows (Bs 15)) (froms (Bs 15)) 0 0) r) : ∀ (d j : Nat), 15 - j = d → j ≤ 15 →
    Ev (fun k => spec_l01Half.l0 k x0 (rows (Bs j)) (froms (Bs j)) 0 ((j + 1 : Nat) : Int)) r := by
  intro d
  induction d with
  | zero =>
    intro j hd hj
    have e : j = 15 := by omega
    subst e
    refine Ev.step (fun k => ?_) hr
    simp only [spec_l01Half.l0]
    rw [if_neg (by omega)]
  | succ d ih =>
    intro j hd hj
    have hw : IntKind.u64.wrap (((j + 1 : Nat) : Int) + 1) = ((j + 1 + 1 : Nat) : Int) := by
      simp [IntKind.wrap, IntKind.bits, IntKind.signed]; omega
    have hnext := ih (j + 1) (by omega) (by omega)
    have hl := Bs_len j
    have h2 : Ev (fun k => spec_l01Half.l2 k x0 (rows (Bs j ++ [redS (rowOf (j + 1), own (j + 1)) (Bs j)])) (froms (Bs j ++ [redS (rowOf (j + 1), own (j + 1)) (Bs j)])) 0 ((j + 1 : Nat) : Int) ((Bs j).length : Int)) r := by
      refine shalf_l2 x0 0 _ r (Bs j).length _ (by simp) (by simp; omega) ?_
      rw [hw]
      exact hnext
    have h1 := shalf_l1 x0 0 ((j + 1 : Nat) : Int) (Bs j) (by omega) r (Bs j).length 0 (rowOf (j + 1), own (j + 1)) (by omega) (by omega) h2
    have hown : 0 ≤ own (j + 1) ∧ own (j + 1) < 65536 := by
      have : ∀ i, i < 16 → 0 ≤ own i ∧ own i < 65536 := by decide +kernel
      exact this (j + 1) (by omega)
    have ht : spec_l01Times.f (own (j + 1)) (own (j + 1)) = some (nmI 4 (own (j + 1)) (own (j + 1))) := by
      unfold spec_l01Times.f
      rw [if_pos ⟨hown.1, hown.2, hown.1, hown.2⟩]
    refine Ev.step (fun k => ?_) h1
    simp only [spec_l01Half.l0]
    rw [if_pos (by omega), if_pos (by omega)]
    show (spec_l01Times.f (own (j + 1)) (own (j + 1))).bind _ = _
    rw [ht]
    rfl
theorem shalf_ev (x0 : Int) : Ev (fun k => spec_l01Half.f k x0) ((redS (x0, 0) (Bs 15)).2, (redS (x0, 0) (Bs 15)).1 == 0) := by
  unfold spec_l01Half.f
  have h3 := shalf_l3 (Bs 15) (by rw [Bs_len]; decide) (Bs 15).length 0 (x0, 0) (by omega) (by omega)
  rw [List.drop_zero] at h3
  exact shalf_l0 x0 _ h3 15 0 (by omega) (by omega)
open Go.Sort Go.Lib in
theorem srt_eq (l l' : List S175) (h1 : inIm l = true) (hp : l'.Perm l) (hs : l'.Pairwise fun x y => y.f0 < x.f0) : srtIm l = l' := by
  rw [inIm, Bool.and_eq_true, Bool.and_eq_true, decide_eq_true_eq, decide_eq_true_eq] at h1
  obtain ⟨⟨hn, hsz⟩, hall⟩ := h1
  have hall2 : (l'.all fun x => decide (0 ≤ x.f0 ∧ x.f0 < 65536)) = true := by
    rw [List.all_eq_true] at hall ⊢
    exact fun x hx => hall x (hp.mem_iff.1 hx)
  have hps := pdq_sorts (ltOf cfIm) swoIm (l.map toIm).toArray 0 (l.map toIm).toArray.size (Lib.bitLen (l.map toIm).toArray.size) true true (Nat.zero_le _) (Nat.le_refl _) (Or.inl rfl)
  have e1 : (l.map toIm).toArray.size = l.length := by simp
  rw [e1] at hps
  unfold srtIm
  generalize pdq (ltOf cfIm) (l.map toIm).toArray 0 l.length (Lib.bitLen l.length) true true = d at hps ⊢
  obtain ⟨⟨p1, p2, p3⟩, p4⟩ := hps
  have hd : d.size = l.length := by rw [p1]; simp
  have hperm : d.toList.Perm (l.map toIm) := by
    have e2 : (d.extract 0 l.length) = d := by rw [← hd]; simp
    have e3 : ((l.map toIm).toArray.extract 0 l.length) = (l.map toIm).toArray := by
      have : l.length = (l.map toIm).toArray.size := by simp
      rw [this, Array.extract_size]
    rw [e2, e3] at p3
    simpa using p3
  have hmap : (l'.map toIm).map ofIm = l' := map_im l' hall2
  have key : d.toList = l'.map toIm := by
    refine List.Perm.eq_of_pairwise (le := fun x y => y.1.val ≤ x.1.val) ?_ ?_ ?_ (hperm.trans ((hp.map toIm).symm))
    · intro a b ha hb h1 h2
      have ha' : a ∈ l'.map toIm := (hperm.trans ((hp.map toIm).symm)).mem_iff.1 ha
      obtain ⟨x, hx, rfl⟩ := List.mem_map.1 ha'
      obtain ⟨y, hy, rfl⟩ := List.mem_map.1 hb
      rw [List.all_eq_true] at hall2
      have bx := of_decide_eq_true (hall2 x hx)
      have by_ := of_decide_eq_true (hall2 y hy)
      have exy : x.f0 = y.f0 := by
        simp only [toIm] at h1 h2
        omega
      have : x = y := by
        obtain ⟨i, hi, rfl⟩ := List.mem_iff_getElem.1 hx
        obtain ⟨j, hj, rfl⟩ := List.mem_iff_getElem.1 hy
        rcases Nat.lt_trichotomy i j with h | h | h
        · have := List.pairwise_iff_getElem.1 hs i j hi hj h
          omega
        · subst h; rfl
        · have := List.pairwise_iff_getElem.1 hs j i hj hi h
          omega
      rw [this]
    · rw [List.pairwise_iff_getElem]
      intro i j hi hj hij
      have := p4 i j (Nat.zero_le _) hij (by simpa [hd] using hj)
      rw [getElem!_pos d j (by simpa using hj), getElem!_pos d i (by simpa using hi), ltIm, decide_eq_false_iff_not] at this
      simp only [Array.getElem_toList]
      omega
    · rw [List.pairwise_map]
      refine List.Pairwise.imp_of_mem ?_ hs
      intro a b ha hb h
      rw [List.all_eq_true] at hall2
      have ba := of_decide_eq_true (hall2 a ha)
      have bb := of_decide_eq_true (hall2 b hb)
      simp only [toIm]
      omega
  rw [key, hmap]
def okStep (k : Nat) : Bool :=
  let v := redS (rowOf (k + 1), own (k + 1)) (Bs k)
  let l := imgs (Bs k ++ [v])
  decide (v.1 ≠ 0) && inIm l && (Bs (k + 1)).isPerm (Bs k ++ [v]) && ((List.range (k + 1)).all fun i => (List.range i).all fun j => decide (((Bs (k + 1)).getD i (0, 0)).1 < ((Bs (k + 1)).getD j (0, 0)).1))
set_option maxRecDepth 100000 in
theorem okSteps : ∀ k, k < 15 → okStep k = true := by decide +kernel
theorem step_imgs (k : Nat) (hk : k < 15) : (redS (rowOf (k + 1), own (k + 1)) (Bs k)).1 ≠ 0 ∧ inIm (imgs (Bs k ++ [redS (rowOf (k + 1), own (k + 1)) (Bs k)])) = true ∧ srtIm (imgs (Bs k ++ [redS (rowOf (k + 1), own (k + 1)) (Bs k)])) = imgs (Bs (k + 1)) := by
  have h := okSteps k hk
  simp only [okStep, Bool.and_eq_true, decide_eq_true_eq] at h
  obtain ⟨⟨⟨h1, h2⟩, h3⟩, h4⟩ := h
  refine ⟨h1, h2, srt_eq _ _ h2 ((List.isPerm_iff.1 h3).map _) ?_⟩
  rw [imgs, List.pairwise_map, List.pairwise_iff_getElem]
  intro i j hi hj hij
  rw [List.all_eq_true] at h4
  have hl := Bs_len (k + 1)
  have h5 := h4 j (List.mem_range.2 (by omega))
  rw [List.all_eq_true] at h5
  have h6 := of_decide_eq_true (h5 i (List.mem_range.2 hij))
  simpa [List.getD_eq_getElem?_getD, hi, hj] using h6
theorem andNot16 (x : Int) (h1 : 0 ≤ x) (h2 : x < 65536) : Go.bits .andNot .u16 x 1 = ((x.toNat &&& 65534 : Nat) : Int) := by
  obtain ⟨a, rfl⟩ := Int.eq_ofNat_of_zero_le h1
  have ha : a < 2 ^ 16 := by omega
  have hx : a &&& 65534 < 2 ^ 16 := Nat.and_lt_two_pow a (by decide)
  have e0 : (~~~(BitVec.ofInt IntKind.u16.bits 1)).toNat = 65534 := by decide
  simp only [Go.bits, BitVec.toNat_and, e0, BitVec.ofInt_natCast, BitVec.toNat_ofNat, Int.toNat_natCast]
  rw [Nim.wrap_u16]
  have e1 : a % 2 ^ IntKind.u16.bits = a := Nat.mod_eq_of_lt ha
  rw [e1]
  omega
def ev16 (x : Int) : Prop := 0 ≤ x ∧ x < 65536 ∧ x.toNat &&& 65534 = x.toNat
instance (x : Int) : Decidable (ev16 x) := inferInstanceAs (Decidable (_ ∧ _))
theorem ev16_xor {x y : Int} (hx : ev16 x) (hy : ev16 y) : ev16 (xr x y) := by
  have e := Nim.xor16 x y hx.1 hx.2.1 hy.1 hy.2.1
  have hlt : x.toNat ^^^ y.toNat < 2 ^ 16 := Nat.xor_lt_two_pow (by have := hx.2.1; omega) (by have := hy.2.1; omega)
  unfold xr
  rw [e]
  refine ⟨by omega, by omega, ?_⟩
  rw [Int.toNat_natCast, Nat.and_xor_distrib_right, hx.2.2, hy.2.2]
theorem ev16_andNot {x : Int} (hx : ev16 x) : Go.bits .andNot .u16 x 1 = x := by
  rw [andNot16 x hx.1 hx.2.1, hx.2.2]
  have := hx.1
  omega
theorem red_ev : ∀ (B : List P2) (v : P2), ev16 v.2 → (∀ b ∈ B, ev16 b.2) → ev16 (redS v B).2
  | [], v, hv, _ => hv
  | b :: B, v, hv, hB => by
    rw [redS]
    split
    · exact red_ev B _ (ev16_xor hv (hB b (by simp))) fun b hb => hB b (by simp [hb])
    · exact red_ev B _ hv fun b hb => hB b (by simp [hb])
set_option maxRecDepth 100000 in
theorem Bs_ev : ∀ b ∈ Bs 15, ev16 b.2 := by decide +kernel
theorem half_even (x : Int) : Go.bits .andNot .u16 (redS (x, 0) (Bs 15)).2 1 = (redS (x, 0) (Bs 15)).2 := ev16_andNot (red_ev _ _ (show ev16 0 from by decide) Bs_ev)
theorem own_lt (k : Nat) (h : k < 16) : 0 ≤ own k ∧ own k < 65536 := by
  have : ∀ i, i < 16 → 0 ≤ own i ∧ own i < 65536 := by decide +kernel
  exact this k h
theorem times_evI (x y : Int) (h1 : 0 ≤ x) (h2 : x < 65536) (h3 : 0 ≤ y) (h4 : y < 65536) : Ev (fun k => impl_times.f k x y) (nmI 4 x y) := by
  have h := times_evF (fof 4 x.toNat) (fof 4 y.toNat)
  have hs := times_spec (fof 4 x.toNat) (fof 4 y.toNat)
  rw [tI_of x h1 h2, tI_of y h3 h4] at h hs
  unfold spec_l01Times.f at hs
  rw [if_pos ⟨h1, h2, h3, h4⟩] at hs
  rw [Option.some.inj hs]
  exact h
theorem xr_comm (x y : Int) : xr x y = xr y x := by simp only [xr, Go.bits, BitVec.xor_comm]
theorem ihalf_l1 (x0 x5 : Int) (B : List P2) (hB : B.length ≤ 20) (r : Int × Bool) (z : P2) (hz : z.1 ≠ 0) (h : Ev (fun k => (impl_image.f (imgs (B ++ [z]))).bind fun t => impl_halfRoot.l0 k x0 t (wrap64 (x5 + 1))) r) : ∀ (d i : Nat) (v : P2), B.length - i = d → i ≤ B.length → redS v (B.drop i) = z →
    Ev (fun k => impl_halfRoot.l1 k x0 (imgs B) x5 (imgs B) (B.length : Int) (i : Int) v.1 v.2) r := by
  intro d
  induction d with
  | zero =>
    intro i v hd hi hv
    have e : i = B.length := by omega
    subst e
    rw [List.drop_length, redS] at hv
    subst hv
    refine Ev.step (fun k => ?_) h
    simp only [impl_halfRoot.l1, imgs_len]
    rw [if_neg (by omega), if_neg hz, if_pos (by omega)]
    simp [imgs]
  | succ d ih =>
    intro i v hd hi hv
    have hlt : i < B.length := by omega
    rw [drop_P2 B i hlt, redS] at hv
    by_cases hc : xr v.1 (B.getD i (0, 0)).1 < v.1
    · rw [if_pos hc] at hv
      refine Ev.step (fun k => ?_) (ih (i + 1) _ (by omega) (by omega) hv)
      simp only [impl_halfRoot.l1, imgs_len, imgs_rd]
      rw [if_pos (by omega), if_pos (by omega), if_pos (by omega), if_pos (show Go.bits .xor .u16 _ _ < _ from hc), w64n i (by omega)]
      rfl
    · rw [if_neg hc] at hv
      refine Ev.step (fun k => ?_) (ih (i + 1) _ (by omega) (by omega) hv)
      simp only [impl_halfRoot.l1, imgs_len, imgs_rd]
      rw [if_pos (by omega), if_pos (by omega), if_pos (by omega), if_neg (show ¬ Go.bits .xor .u16 _ _ < _ from hc), w64n i (by omega)]
theorem ihalf_l2 (B : List P2) (hB : B.length ≤ 20) : ∀ (d i : Nat) (v : P2), B.length - i = d → i ≤ B.length →
    Ev (fun k => impl_halfRoot.l2 k v.1 v.2 (imgs B) (B.length : Int) (i : Int)) (Go.bits .andNot .u16 (redS v (B.drop i)).2 1, (redS v (B.drop i)).1 == 0) := by
  intro d
  induction d with
  | zero =>
    intro i v hd hi
    have e : i = B.length := by omega
    subst e
    rw [List.drop_length, redS]
    refine Ev.step (f := fun _ => some (Go.bits .andNot .u16 v.2 1, v.1 == 0)) (fun k => ?_) (Ev.now _)
    simp only [impl_halfRoot.l2, imgs_len]
    rw [if_neg (by omega)]
  | succ d ih =>
    intro i v hd hi
    have hlt : i < B.length := by omega
    rw [drop_P2 B i hlt, redS]
    by_cases hc : xr v.1 (B.getD i (0, 0)).1 < v.1
    · rw [if_pos hc]
      refine Ev.step (fun k => ?_) (ih (i + 1) _ (by omega) (by omega))
      simp only [impl_halfRoot.l2, imgs_len, imgs_rd]
      rw [if_pos (by omega), if_pos (by omega), if_pos (by omega), if_pos (show Go.bits .xor .u16 _ _ < _ from hc), w64n i (by omega)]
      rfl
    · rw [if_neg hc]
      refine Ev.step (fun k => ?_) (ih (i + 1) _ (by omega) (by omega))
      simp only [impl_halfRoot.l2, imgs_len, imgs_rd]
      rw [if_pos (by omega), if_pos (by omega), if_pos (by omega), if_neg (show ¬ Go.bits .xor .u16 _ _ < _ from hc), w64n i (by omega)]
theorem ihalf_l0 (x0 : Int) (r : Int × Bool) (hr : Ev (fun k => impl_halfRoot.l2 k x0 0 (imgs (Bs 15)) ((Bs 15).length : Int) 0) r) : ∀ (d j : Nat), 15 - j = d → j ≤ 15 →
    Ev (fun k => impl_halfRoot.l0 k x0 (imgs (Bs j)) ((j + 1 : Nat) : Int)) r := by
  intro d
  induction d with
  | zero =>
    intro j hd hj
    have e : j = 15 := by omega
    subst e
    refine Ev.step (fun k => ?_) hr
    simp only [impl_halfRoot.l0, imgs_len]
    rw [if_neg (by omega)]
  | succ d ih =>
    intro j hd hj
    have hw : wrap64 (((j + 1 : Nat) : Int) + 1) = ((j + 1 + 1 : Nat) : Int) := w64n (j + 1) (by omega)
    have hnext := ih (j + 1) (by omega) (by omega)
    have hl := Bs_len j
    obtain ⟨s1, s2, s3⟩ := step_imgs j (by omega)
    have h1 := ihalf_l1 x0 ((j + 1 : Nat) : Int) (Bs j) (by omega) r _ s1 (by
      rw [hw]
      refine Ev.congr (fun k => ?_) hnext
      unfold impl_image.f
      rw [if_pos s2, s3]
      rfl) (Bs j).length 0 (rowOf (j + 1), own (j + 1)) (by omega) (by omega) rfl
    have hown := own_lt (j + 1) (by omega)
    refine Ev.step (f := fun k => (impl_times.f k (own (j + 1)) (own (j + 1))).bind fun t => impl_halfRoot.l1 k x0 (imgs (Bs j)) ((j + 1 : Nat) : Int) (imgs (Bs j)) ((Bs j).length : Int) ((0 : Nat) : Int) (xr t (own (j + 1))) (own (j + 1))) (fun k => ?_) (Ev.bind (times_evI _ _ hown.1 hown.2 hown.1 hown.2) ?_)
    · simp only [impl_halfRoot.l0, imgs_len]
      rw [if_pos (by omega), if_pos (by omega)]
      rfl
    · rw [xr_comm]
      exact h1
theorem ihalf_ev (x0 : Int) : Ev (fun k => impl_halfRoot.f k x0) ((redS (x0, 0) (Bs 15)).2, (redS (x0, 0) (Bs 15)).1 == 0) := by
  unfold impl_halfRoot.f
  have h3 := ihalf_l2 (Bs 15) (by rw [Bs_len]; decide) (Bs 15).length 0 (x0, 0) (by omega) (by omega)
  rw [List.drop_zero, half_even] at h3
  exact ihalf_l0 x0 _ h3 15 0 (by omega) (by omega)
end Go.Proofs.Ytadfobooofkelaa.X
