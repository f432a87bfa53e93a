/- PolyThrough of the program and of the reference return the same, for all arguments; nothing is asked of them. -/
import Derived.Test.YtadfobooofkelaaYThrough3
import Derived.Test.YtadfobooofkelaaRows
import Derived.Below
import Derived.WalkKit
import Derived.ProofKit
import Derived.OpenShut
import Derived.ShutString
import Derived.ChangeOld
import Derived.SizedLaws
import Derived.Carry
import Derived.Deep.Slices
import Derived.Deep.Fields
import Derived.ChangeSame
import Derived.Lib.SmallJoins
-- Laid by wip/xprint.py of this session (the kit's print program, with some contracts given by hand). Not trusted: Lean checks it.
namespace Go.Proofs.Ytadfobooofkelaa.X
open Go.RowKit Go.Proofs.YtadfobooofkelaaW.PrintWords Go.Proofs.YtadfobooofkelaaW.PrintLast Go.Proofs.YtadfobooofkelaaW.PrintMore
attribute [local go_sem] max2_int min2_int max_two min_two max_three min_three max_four min_four
set_option linter.unusedVariables false
set_option linter.unusedSimpArgs false
def laws_eqSpotS.l0 : Nat → List (S67) → List (S67) → Int → Option (Bool)
  | 0, _, _, _ => none
  | k + 1, x0, x1, x5 => if x5 < (x0.length : Int) then (if 0 ≤ x5 then (if x5 < (x1.length : Int) then ((laws_eqSpot.f ((rd_T67 x0 x5).f0) ((rd_T67 x0 x5).f1) ((rd_T67 x1 x5).f0) ((rd_T67 x1 x5).f1)).bind fun t103 => (if t103 = true then (laws_eqSpotS.l0 k x0 x1 (wrap64 (x5 + 1))) else (some false))) else (none)) else (none)) else (some true)
def laws_eqSpotS.f (k : Nat) (l0 : List (S67)) (l1 : List (S67)) : Option (Bool) := if (l0.length : Int) = (l1.length : Int) then (laws_eqSpotS.l0 k l0 l1 0) else (some false)
def laws_eqSpotS.T6 : Bool × List (List Nat × List Nat) := (true, [([], []), ([], []), ([0, 1], [0, 1]), ([2], [2]), ([], []), ([], []), ([4, 5], [4, 5]), ([6], [6]), ([3, 7], [3, 7]), ([8], [8])])
def laws_eqSpotS.B6 : List Nat := [0, 0, 3, 7, 0, 0, 48, 112, 255, 511]
theorem laws_eqSpotS.tab6 : rtab .any (opsOf Try.f15 6) = laws_eqSpotS.T6 := by kernel_rfl
theorem laws_eqSpotS.bits6 : waitsOk laws_eqSpotS.T6.2 laws_eqSpotS.B6 = true := by kernel_rfl
set_option maxHeartbeats 8000000 in
set_option maxRecDepth 100000 in
theorem laws_eqSpotS.calls (k : Nat) (A0 : Option Addr) (c0 : Nat) (l0 : List (S67)) (A1 : Option Addr) (c1 : Nat) (l1 : List (S67)) (r : Bool) (w : World) (hr0 : Kd.C k67 w A0 l0.length l0) (hc0 : l0.length ≤ c0) (hr1 : Kd.C k67 w A1 l1.length l1) (hc1 : l1.length ≤ c1) (h : laws_eqSpotS.f k l0 l1 = some r) :
    Calls Try.prog 15 #[.slice A0 l0.length c0, .slice A1 l1.length c1] w fun e w' => e = .returned (.bool r) ∧ Below w.heap.size w w' := by
  have hu67 := Try.underlying67
  have HR0 := Aside0.mk hr0
  have HC0 := Aside0.mk hc0
  clear hr0 hc0
  have HR1 := Aside0.mk hr1
  have HC1 := Aside0.mk hc1
  clear hr1 hc1
  have HB := Aside0.mk (Below.refl w.heap.size w)
  have H : (if (l0.length : Int) = (l1.length : Int) then (laws_eqSpotS.l0 k l0 l1 0) else (some false)) = some r := h
  clear h
  by_cases c3 : (l0.length : Int) = (l1.length : Int)
  · rw [if_pos c3] at H
    have c3b0 : ((l0.length : Int) == (l1.length : Int)) = true := beq_iff_eq.mpr c3
    have c3b1 : ((l0.length : Int) != (l1.length : Int)) = false := bne_eq_false_iff_eq.mpr c3
    have c3b2 : (l0.length == l1.length) = true := by first | simpa using c3 | (simp at c3 ⊢; omega)
    clear c3
    have H' := Aside0.mk H
    clear H
    go_enter Try.func15, Try.ntmps15
    go_wp2
    go_loopg [5] k (fun kq v5 w' => ∃ (x5_1 : Int), v5 = .int .i64 x5_1 ∧ Aside0 (laws_eqSpotS.l0 kq l0 l1 x5_1 = some r) ∧ Aside0 (kq ≤ k) ∧ Aside0 (Below w.heap.size w w'))
    case atStart => exact ⟨(0), (by first | rfl | (simp; done) | (simp [*]; done)), H', ⟨Nat.le_refl _⟩, ⟨by repeat (first | (with_reducible first | exact HB.out | apply below_alloc | apply pw_below_drewN | apply below_drew1) | exact HB.out)⟩⟩
    case round =>
      clear H'
      try clear c1
      try clear p2
      try clear c3
      try clear c3b0
      try clear c3b1
      try clear c3b2
      obtain ⟨x5_1, rfl, HA, HK1, HB⟩ := hrel
      cases gk with
      | zero => exact absurd HA.out (by simp [laws_eqSpotS.l0])
      | succ k1 =>
        have H := HA.out
        clear HA
        simp only [laws_eqSpotS.l0] at H
        by_cases c4 : x5_1 < (l0.length : Int)
        · rw [if_pos c4] at H
          have c4b0 : decide (x5_1 < (l0.length : Int)) = true := decide_eq_true c4
          clear c4
          by_cases c5 : 0 ≤ x5_1
          · rw [if_pos c5] at H
            have c5b0 : decide (0 ≤ x5_1) = true := decide_eq_true c5
            clear c5
            by_cases c6 : x5_1 < (l1.length : Int)
            · rw [if_pos c6] at H
              have c6b0 : decide (x5_1 < (l1.length : Int)) = true := decide_eq_true c6
              clear c6
              replace H := Option.bind_eq_some_iff.mp H
              obtain ⟨t103, A70, H⟩ := H
              replace H : (if t103 = true then (laws_eqSpotS.l0 k1 l0 l1 (wrap64 (x5_1 + 1))) else (some false)) = some r := H
              have A7 := Aside0.mk A70
              clear A70
              by_cases c8 : t103 = true
              · subst c8
                have H1 : (laws_eqSpotS.l0 k1 l0 l1 (wrap64 (x5_1 + 1))) = some r := by rw [if_pos rfl] at H; exact H
                clear H
                have H := H1
                clear H1
                have H' := Aside0.mk H
                clear H
                try go_wp2
                have n0_ := Aside0.mk (below_drew1 HB.out)
                clear HB
                have HB := n0_
                clear n0_
                have p101 : 0 ≤ (x5_1 : Int) := of_decide_eq_true (by first | (with_reducible assumption) | assumption)
                have q101 : x5_1 < (l0.length : Int) := of_decide_eq_true (by first | (with_reducible assumption) | assumption)
                obtain ⟨ad101, e101, hx101_0, hx101_1⟩ := at_T67 HR0.out x5_1 p101 q101
                have hw101_1 := hx101_1
                have hw101_0 := hx101_0
                cases e101
                replace hx101_0 := (HB.out.cell (World.block_lt_of_cell? w _ hx101_0)).trans hx101_0
                replace hx101_1 := (HB.out.cell (World.block_lt_of_cell? w _ hx101_1)).trans hx101_1
                replace p101 := eq_true p101
                replace q101 := eq_true q101
                have p102 : 0 ≤ (x5_1 : Int) := of_decide_eq_true (by first | (with_reducible assumption) | assumption)
                have q102 : x5_1 < (l1.length : Int) := of_decide_eq_true (by first | (with_reducible assumption) | assumption)
                obtain ⟨ad102, e102, hx102_0, hx102_1⟩ := at_T67 HR1.out x5_1 p102 q102
                have hw102_1 := hx102_1
                have hw102_0 := hx102_0
                cases e102
                replace hx102_0 := (HB.out.cell (World.block_lt_of_cell? w _ hx102_0)).trans hx102_0
                replace hx102_1 := (HB.out.cell (World.block_lt_of_cell? w _ hx102_1)).trans hx102_1
                replace p102 := eq_true p102
                replace q102 := eq_true q102
                refine start_ (n := 10) (S := fun w' => w'.cell? (ad101.add ((x5_1).toNat * 2)) = some (.int .u16 ((rd_T67 l0 x5_1).f0)) ∧ w'.cell? ⟨(ad101.add ((x5_1).toNat * 2)).block, (ad101.add ((x5_1).toNat * 2)).off + 1, none⟩ = some (.int .u16 ((rd_T67 l0 x5_1).f1)) ∧ w'.cell? (ad102.add ((x5_1).toNat * 2)) = some (.int .u16 ((rd_T67 l1 x5_1).f0)) ∧ w'.cell? ⟨(ad102.add ((x5_1).toNat * 2)).block, (ad102.add ((x5_1).toNat * 2)).off + 1, none⟩ = some (.int .u16 ((rd_T67 l1 x5_1).f1))) (ds := []) #[false, false, false, false, false, false, false, false, false, false] (by kernel_rfl) rfl rfl ⟨((HB.out.cell (World.block_lt_of_cell? w _ hw101_0)).trans hw101_0), ((HB.out.cell (World.block_lt_of_cell? w _ hw101_1)).trans hw101_1), ((HB.out.cell (World.block_lt_of_cell? w _ hw102_0)).trans hw102_0), ((HB.out.cell (World.block_lt_of_cell? w _ hw102_1)).trans hw102_1)⟩ (fun hHeld => ?_); refine with_tabW laws_eqSpotS.tab6 laws_eqSpotS.bits6 (fun HT_ HW_ => ?_)
                generalize wr.drew = w9 at HB hx101_0 hx101_1 hx102_0 hx102_1 hHeld ⊢
                refine pure_ (i := 0) (N := some 17) (v := ?_) (a' := ?_) #[true, false, false, false, false, false, false, false, false, false] rfl rfl (any_of HT_.out (by kernel_rfl)) (fun _ _ _ h => h) (Or.inl ⟨by rfl, ?_⟩) ?_ ?_
                rotate_left
                · intro w'
                  go_simp
                  with_reducible rfl
                rotate_left
                · simp only [Act.put, List.setIfInBounds_toArray, List.set_cons_zero, List.set_cons_succ, i64_w, i32_w]
                  rfl
                refine pure_ (i := 1) (N := some 18) (v := ?_) (a' := ?_) #[true, true, false, false, false, false, false, false, false, false] rfl rfl (any_of HT_.out (by kernel_rfl)) (fun _ _ _ h => h) (Or.inl ⟨by rfl, ?_⟩) ?_ ?_
                rotate_left
                · intro w'
                  go_simp
                  with_reducible rfl
                rotate_left
                · simp only [Act.put, List.setIfInBounds_toArray, List.set_cons_zero, List.set_cons_succ, i64_w, i32_w]
                  rfl
                refine pure_ (i := 2) (N := some 19) (v := ?_) (a' := ?_) #[true, true, true, false, false, false, false, false, false, false] rfl rfl (any_of HT_.out (by kernel_rfl)) (fun _ _ _ h => h) (Or.inl ⟨by rfl, ?_⟩) ?_ ?_
                rotate_left
                · intro w'
                  go_simp
                  with_reducible rfl
                rotate_left
                · simp only [Act.put, List.setIfInBounds_toArray, List.set_cons_zero, List.set_cons_succ, i64_w, i32_w]
                  rfl
                refine pure_ (i := 4) (N := some 21) (v := ?_) (a' := ?_) #[true, true, true, false, true, false, false, false, false, false] rfl rfl (any_of HT_.out (by kernel_rfl)) (fun _ _ _ h => h) (Or.inl ⟨by rfl, ?_⟩) ?_ ?_
                rotate_left
                · intro w'
                  go_simp
                  with_reducible rfl
                rotate_left
                · simp only [Act.put, List.setIfInBounds_toArray, List.set_cons_zero, List.set_cons_succ, i64_w, i32_w]
                  rfl
                refine pure_ (i := 5) (N := some 22) (v := ?_) (a' := ?_) #[true, true, true, false, true, true, false, false, false, false] rfl rfl (any_of HT_.out (by kernel_rfl)) (fun _ _ _ h => h) (Or.inl ⟨by rfl, ?_⟩) ?_ ?_
                rotate_left
                · intro w'
                  go_simp
                  with_reducible rfl
                rotate_left
                · simp only [Act.put, List.setIfInBounds_toArray, List.set_cons_zero, List.set_cons_succ, i64_w, i32_w]
                  rfl
                refine pure_ (i := 6) (N := some 23) (v := ?_) (a' := ?_) #[true, true, true, false, true, true, true, false, false, false] rfl rfl (any_of HT_.out (by kernel_rfl)) (fun _ _ _ h => h) (Or.inl ⟨by rfl, ?_⟩) ?_ ?_
                rotate_left
                · intro w'
                  go_simp
                  with_reducible rfl
                rotate_left
                · simp only [Act.put, List.setIfInBounds_toArray, List.set_cons_zero, List.set_cons_succ, i64_w, i32_w]
                  rfl
                refine take_ (i := 3) (N := some 20) (v := ?_) (a' := ?_) #[true, true, true, true, true, true, true, false, false, false] rfl rfl (take_ofW HT_.out HW_.out (by kernel_rfl)) (fun _ _ _ h => h) (Or.inl ⟨by rfl, ?_⟩) hHeld ?_ ?_
                rotate_left
                · rintro w' ⟨s0, s1, s2, s3⟩
                  go_simp
                  with_reducible rfl
                rotate_left
                · simp only [Act.put, List.setIfInBounds_toArray, List.set_cons_zero, List.set_cons_succ, i64_w, i32_w]
                  rfl
                refine take_ (i := 7) (N := some 24) (v := ?_) (a' := ?_) #[true, true, true, true, true, true, true, true, false, false] rfl rfl (take_ofW HT_.out HW_.out (by kernel_rfl)) (fun _ _ _ h => h) (Or.inl ⟨by rfl, ?_⟩) hHeld ?_ ?_
                rotate_left
                · rintro w' ⟨s0, s1, s2, s3⟩
                  go_simp
                  with_reducible rfl
                rotate_left
                · simp only [Act.put, List.setIfInBounds_toArray, List.set_cons_zero, List.set_cons_succ, i64_w, i32_w]
                  rfl
                refine one_ (i := 8) (N := some 25) #[true, true, true, true, true, true, true, true, true, false] rfl rfl (one_of HT_.out (by kernel_rfl)) (by decide) (fun K hK => ?_)
                refine goes_ Try.func96 (by kernel_rfl) rfl #[.agg #[.int .u16 ((rd_T67 l0 x5_1).f0), .int .u16 ((rd_T67 l0 x5_1).f1)], .agg #[.int .u16 ((rd_T67 l1 x5_1).f0), .int .u16 ((rd_T67 l1 x5_1).f1)]] (by rfl) rfl rfl (by (try simp only [List.map_toArray, List.map_cons, List.map_nil]); first | done | rfl | (simp only [List.length_drop, List.length_take]; rfl)) ?_
                with_reducible refine (laws_eqSpot.calls ((rd_T67 l0 x5_1).f0) ((rd_T67 l0 x5_1).f1) ((rd_T67 l1 x5_1).f0) ((rd_T67 l1 x5_1).f1) true _ A7.out).mono ?_
                rintro e w10 ⟨rfl, hb⟩
                refine ⟨_, rfl, ?_⟩
                have n0_ := Aside0.mk (below_step (by repeat (first | (with_reducible first | exact HB.out | apply below_alloc | apply pw_below_drewN | apply below_drew1) | exact HB.out)) hb)
                clear HB
                have HB := n0_
                clear n0_
                (try clear hb)
                (try clear hb2)
                (try clear hk)
                (try clear hi)
                refine hK.out _ _ ⟨((HB.out.cell (World.block_lt_of_cell? w _ hw101_0)).trans hw101_0), ((HB.out.cell (World.block_lt_of_cell? w _ hw101_1)).trans hw101_1), ((HB.out.cell (World.block_lt_of_cell? w _ hw102_0)).trans hw102_0), ((HB.out.cell (World.block_lt_of_cell? w _ hw102_1)).trans hw102_1)⟩ (fun hHeld => ?_)
                clear hK K
                refine norm_ (a' := ?_) ?_ ?_
                rotate_left
                · show Act.put _ (some 25) _ = _
                  simp only [Act.put, List.setIfInBounds_toArray, List.set_cons_zero, List.set_cons_succ, i64_w, i32_w]
                  rfl
                refine pure_ (i := 9) (N := some 26) (v := ?_) (a' := ?_) #[true, true, true, true, true, true, true, true, true, true] rfl rfl (any_of HT_.out (by kernel_rfl)) (fun _ _ _ h => h) (Or.inl ⟨by rfl, ?_⟩) ?_ ?_
                rotate_left
                · intro w'
                  go_simp
                  with_reducible rfl
                rotate_left
                · simp only [Act.put, List.setIfInBounds_toArray, List.set_cons_zero, List.set_cons_succ, i64_w, i32_w]
                  rfl
                refine done_ (done_of HT_.out (by kernel_rfl)) ?_
                try go_wp2
                go_roundg k1
                case measure => have := HK1.out; omega
                case rel => exact ⟨(wrap64 (x5_1 + 1)), (by first | rfl | (simp; done) | (simp [*]; done)), H', ⟨by have := HK1.out; omega⟩, ⟨by repeat (first | (with_reducible first | exact HB.out | apply below_alloc | apply pw_below_drewN | apply below_drew1) | exact HB.out)⟩⟩
              · replace c8 := Bool.eq_false_iff.mpr c8
                subst c8
                have H1 : (some false) = some r := by rw [if_neg (show ¬ (false = true) by decide)] at H; exact H
                clear H
                have H := H1
                clear H1
                obtain rfl := Option.some.inj H
                try go_wp2
                have n0_ := Aside0.mk (below_drew1 HB.out)
                clear HB
                have HB := n0_
                clear n0_
                have p101 : 0 ≤ (x5_1 : Int) := of_decide_eq_true (by first | (with_reducible assumption) | assumption)
                have q101 : x5_1 < (l0.length : Int) := of_decide_eq_true (by first | (with_reducible assumption) | assumption)
                obtain ⟨ad101, e101, hx101_0, hx101_1⟩ := at_T67 HR0.out x5_1 p101 q101
                have hw101_1 := hx101_1
                have hw101_0 := hx101_0
                cases e101
                replace hx101_0 := (HB.out.cell (World.block_lt_of_cell? w _ hx101_0)).trans hx101_0
                replace hx101_1 := (HB.out.cell (World.block_lt_of_cell? w _ hx101_1)).trans hx101_1
                replace p101 := eq_true p101
                replace q101 := eq_true q101
                have p102 : 0 ≤ (x5_1 : Int) := of_decide_eq_true (by first | (with_reducible assumption) | assumption)
                have q102 : x5_1 < (l1.length : Int) := of_decide_eq_true (by first | (with_reducible assumption) | assumption)
                obtain ⟨ad102, e102, hx102_0, hx102_1⟩ := at_T67 HR1.out x5_1 p102 q102
                have hw102_1 := hx102_1
                have hw102_0 := hx102_0
                cases e102
                replace hx102_0 := (HB.out.cell (World.block_lt_of_cell? w _ hx102_0)).trans hx102_0
                replace hx102_1 := (HB.out.cell (World.block_lt_of_cell? w _ hx102_1)).trans hx102_1
                replace p102 := eq_true p102
                replace q102 := eq_true q102
                refine start_ (n := 10) (S := fun w' => w'.cell? (ad101.add ((x5_1).toNat * 2)) = some (.int .u16 ((rd_T67 l0 x5_1).f0)) ∧ w'.cell? ⟨(ad101.add ((x5_1).toNat * 2)).block, (ad101.add ((x5_1).toNat * 2)).off + 1, none⟩ = some (.int .u16 ((rd_T67 l0 x5_1).f1)) ∧ w'.cell? (ad102.add ((x5_1).toNat * 2)) = some (.int .u16 ((rd_T67 l1 x5_1).f0)) ∧ w'.cell? ⟨(ad102.add ((x5_1).toNat * 2)).block, (ad102.add ((x5_1).toNat * 2)).off + 1, none⟩ = some (.int .u16 ((rd_T67 l1 x5_1).f1))) (ds := []) #[false, false, false, false, false, false, false, false, false, false] (by kernel_rfl) rfl rfl ⟨((HB.out.cell (World.block_lt_of_cell? w _ hw101_0)).trans hw101_0), ((HB.out.cell (World.block_lt_of_cell? w _ hw101_1)).trans hw101_1), ((HB.out.cell (World.block_lt_of_cell? w _ hw102_0)).trans hw102_0), ((HB.out.cell (World.block_lt_of_cell? w _ hw102_1)).trans hw102_1)⟩ (fun hHeld => ?_); refine with_tabW laws_eqSpotS.tab6 laws_eqSpotS.bits6 (fun HT_ HW_ => ?_)
                generalize wr.drew = w11 at HB hx101_0 hx101_1 hx102_0 hx102_1 hHeld ⊢
                refine pure_ (i := 0) (N := some 17) (v := ?_) (a' := ?_) #[true, false, false, false, false, false, false, false, false, false] rfl rfl (any_of HT_.out (by kernel_rfl)) (fun _ _ _ h => h) (Or.inl ⟨by rfl, ?_⟩) ?_ ?_
                rotate_left
                · intro w'
                  go_simp
                  with_reducible rfl
                rotate_left
                · simp only [Act.put, List.setIfInBounds_toArray, List.set_cons_zero, List.set_cons_succ, i64_w, i32_w]
                  rfl
                refine pure_ (i := 1) (N := some 18) (v := ?_) (a' := ?_) #[true, true, false, false, false, false, false, false, false, false] rfl rfl (any_of HT_.out (by kernel_rfl)) (fun _ _ _ h => h) (Or.inl ⟨by rfl, ?_⟩) ?_ ?_
                rotate_left
                · intro w'
                  go_simp
                  with_reducible rfl
                rotate_left
                · simp only [Act.put, List.setIfInBounds_toArray, List.set_cons_zero, List.set_cons_succ, i64_w, i32_w]
                  rfl
                refine pure_ (i := 2) (N := some 19) (v := ?_) (a' := ?_) #[true, true, true, false, false, false, false, false, false, false] rfl rfl (any_of HT_.out (by kernel_rfl)) (fun _ _ _ h => h) (Or.inl ⟨by rfl, ?_⟩) ?_ ?_
                rotate_left
                · intro w'
                  go_simp
                  with_reducible rfl
                rotate_left
                · simp only [Act.put, List.setIfInBounds_toArray, List.set_cons_zero, List.set_cons_succ, i64_w, i32_w]
                  rfl
                refine pure_ (i := 4) (N := some 21) (v := ?_) (a' := ?_) #[true, true, true, false, true, false, false, false, false, false] rfl rfl (any_of HT_.out (by kernel_rfl)) (fun _ _ _ h => h) (Or.inl ⟨by rfl, ?_⟩) ?_ ?_
                rotate_left
                · intro w'
                  go_simp
                  with_reducible rfl
                rotate_left
                · simp only [Act.put, List.setIfInBounds_toArray, List.set_cons_zero, List.set_cons_succ, i64_w, i32_w]
                  rfl
                refine pure_ (i := 5) (N := some 22) (v := ?_) (a' := ?_) #[true, true, true, false, true, true, false, false, false, false] rfl rfl (any_of HT_.out (by kernel_rfl)) (fun _ _ _ h => h) (Or.inl ⟨by rfl, ?_⟩) ?_ ?_
                rotate_left
                · intro w'
                  go_simp
                  with_reducible rfl
                rotate_left
                · simp only [Act.put, List.setIfInBounds_toArray, List.set_cons_zero, List.set_cons_succ, i64_w, i32_w]
                  rfl
                refine pure_ (i := 6) (N := some 23) (v := ?_) (a' := ?_) #[true, true, true, false, true, true, true, false, false, false] rfl rfl (any_of HT_.out (by kernel_rfl)) (fun _ _ _ h => h) (Or.inl ⟨by rfl, ?_⟩) ?_ ?_
                rotate_left
                · intro w'
                  go_simp
                  with_reducible rfl
                rotate_left
                · simp only [Act.put, List.setIfInBounds_toArray, List.set_cons_zero, List.set_cons_succ, i64_w, i32_w]
                  rfl
                refine take_ (i := 3) (N := some 20) (v := ?_) (a' := ?_) #[true, true, true, true, true, true, true, false, false, false] rfl rfl (take_ofW HT_.out HW_.out (by kernel_rfl)) (fun _ _ _ h => h) (Or.inl ⟨by rfl, ?_⟩) hHeld ?_ ?_
                rotate_left
                · rintro w' ⟨s0, s1, s2, s3⟩
                  go_simp
                  with_reducible rfl
                rotate_left
                · simp only [Act.put, List.setIfInBounds_toArray, List.set_cons_zero, List.set_cons_succ, i64_w, i32_w]
                  rfl
                refine take_ (i := 7) (N := some 24) (v := ?_) (a' := ?_) #[true, true, true, true, true, true, true, true, false, false] rfl rfl (take_ofW HT_.out HW_.out (by kernel_rfl)) (fun _ _ _ h => h) (Or.inl ⟨by rfl, ?_⟩) hHeld ?_ ?_
                rotate_left
                · rintro w' ⟨s0, s1, s2, s3⟩
                  go_simp
                  with_reducible rfl
                rotate_left
                · simp only [Act.put, List.setIfInBounds_toArray, List.set_cons_zero, List.set_cons_succ, i64_w, i32_w]
                  rfl
                refine one_ (i := 8) (N := some 25) #[true, true, true, true, true, true, true, true, true, false] rfl rfl (one_of HT_.out (by kernel_rfl)) (by decide) (fun K hK => ?_)
                refine goes_ Try.func96 (by kernel_rfl) rfl #[.agg #[.int .u16 ((rd_T67 l0 x5_1).f0), .int .u16 ((rd_T67 l0 x5_1).f1)], .agg #[.int .u16 ((rd_T67 l1 x5_1).f0), .int .u16 ((rd_T67 l1 x5_1).f1)]] (by rfl) rfl rfl (by (try simp only [List.map_toArray, List.map_cons, List.map_nil]); first | done | rfl | (simp only [List.length_drop, List.length_take]; rfl)) ?_
                with_reducible refine (laws_eqSpot.calls ((rd_T67 l0 x5_1).f0) ((rd_T67 l0 x5_1).f1) ((rd_T67 l1 x5_1).f0) ((rd_T67 l1 x5_1).f1) false _ A7.out).mono ?_
                rintro e w12 ⟨rfl, hb⟩
                refine ⟨_, rfl, ?_⟩
                have n0_ := Aside0.mk (below_step (by repeat (first | (with_reducible first | exact HB.out | apply below_alloc | apply pw_below_drewN | apply below_drew1) | exact HB.out)) hb)
                clear HB
                have HB := n0_
                clear n0_
                (try clear hb)
                (try clear hb2)
                (try clear hk)
                (try clear hi)
                refine hK.out _ _ ⟨((HB.out.cell (World.block_lt_of_cell? w _ hw101_0)).trans hw101_0), ((HB.out.cell (World.block_lt_of_cell? w _ hw101_1)).trans hw101_1), ((HB.out.cell (World.block_lt_of_cell? w _ hw102_0)).trans hw102_0), ((HB.out.cell (World.block_lt_of_cell? w _ hw102_1)).trans hw102_1)⟩ (fun hHeld => ?_)
                clear hK K
                refine norm_ (a' := ?_) ?_ ?_
                rotate_left
                · show Act.put _ (some 25) _ = _
                  simp only [Act.put, List.setIfInBounds_toArray, List.set_cons_zero, List.set_cons_succ, i64_w, i32_w]
                  rfl
                refine pure_ (i := 9) (N := some 26) (v := ?_) (a' := ?_) #[true, true, true, true, true, true, true, true, true, true] rfl rfl (any_of HT_.out (by kernel_rfl)) (fun _ _ _ h => h) (Or.inl ⟨by rfl, ?_⟩) ?_ ?_
                rotate_left
                · intro w'
                  go_simp
                  with_reducible rfl
                rotate_left
                · simp only [Act.put, List.setIfInBounds_toArray, List.set_cons_zero, List.set_cons_succ, i64_w, i32_w]
                  rfl
                refine done_ (done_of HT_.out (by kernel_rfl)) ?_
                try go_wp2
                go_ret
                exact ⟨by first | rfl | (simp [errW_none, errW_some] <;> rfl) | (simp [*, errW_none, errW_some] <;> rfl), by repeat (first | (with_reducible first | exact HB.out | apply below_alloc | apply pw_below_drewN | apply below_drew1) | exact HB.out)⟩
            · rw [if_neg c6] at H
              exact absurd H (by simp)
          · rw [if_neg c5] at H
            exact absurd H (by simp)
        · rw [if_neg c4] at H
          have c4b0 : decide (x5_1 < (l0.length : Int)) = false := decide_eq_false c4
          clear c4
          obtain rfl := Option.some.inj H
          go_wp2
          go_ret
          exact ⟨by first | rfl | (simp [errW_none, errW_some] <;> rfl) | (simp [*, errW_none, errW_some] <;> rfl), by repeat (first | (with_reducible first | exact HB.out | apply below_alloc | apply pw_below_drewN | apply below_drew1) | exact HB.out)⟩
  · rw [if_neg c3] at H
    have c3b0 : ((l0.length : Int) == (l1.length : Int)) = false := beq_eq_false_iff_ne.mpr c3
    have c3b1 : ((l0.length : Int) != (l1.length : Int)) = true := bne_iff_ne.mpr c3
    have c3b2 : (l0.length == l1.length) = false := by first | simpa using c3 | (simp at c3 ⊢; omega)
    obtain rfl := Option.some.inj H
    go_enter Try.func15, Try.ntmps15
    go_wp2
    go_ret
    exact ⟨by first | rfl | (simp [errW_none, errW_some] <;> rfl) | (simp [*, errW_none, errW_some] <;> rfl), by repeat (first | (with_reducible first | exact HB.out | apply below_alloc | apply pw_below_drewN | apply below_drew1) | exact HB.out)⟩
end Go.Proofs.Ytadfobooofkelaa.X

-- Laid by wip/xprint.py of this session (the kit's print program, with some contracts given by hand). Not trusted: Lean checks it.
namespace Go.Proofs.Ytadfobooofkelaa.X
open Go.RowKit Go.Proofs.YtadfobooofkelaaW.PrintWords Go.Proofs.YtadfobooofkelaaW.PrintLast Go.Proofs.YtadfobooofkelaaW.PrintMore
attribute [local go_sem] max2_int min2_int max_two min_two max_three min_three max_four min_four
set_option linter.unusedVariables false
set_option linter.unusedSimpArgs false
def laws_markSpotS.l0 : Nat → List (S67) → Int → Int → Option (Int × (List (S67)))
  | 0, _, _, _ => none
  | k + 1, x0, x1, x5 => if x5 < (x0.length : Int) then (if 0 ≤ x5 then ((some (x0.set (x5 : Int).toNat (⟨IntKind.u16.wrap (x1), (rd_T67 x0 x5).f1⟩ : S67) : List (S67))).bind fun y101 => (laws_markSpotS.l0 k (y101.set (x5 : Int).toNat (⟨(rd_T67 y101 x5).f0, IntKind.u16.wrap (wrap64 (x1 + 1))⟩ : S67)) (wrap64 ((wrap64 (x1 + 1)) + 1)) (wrap64 (x5 + 1)))) else (none)) else (some (x1, x0))
def laws_markSpotS.f (k : Nat) (l0 : List (S67)) (a1 : Int) : Option (Int × (List (S67))) := laws_markSpotS.l0 k l0 a1 0
set_option maxHeartbeats 8000000 in
set_option maxRecDepth 100000 in
theorem laws_markSpotS.calls (k : Nat) (P0_ : Nat → Prop) (u9000_ : Value) (l0 : List (S67)) (a1 : Int) (r1 : Int) (r2 : List (S67)) (w0 w : World) (hB : Below w0.heap.size w0 w) (ho0 : Kd.R k67 67 w w0.heap.size P0_ u9000_ l0) (h : laws_markSpotS.f k l0 a1 = some (r1, r2)) :
    Calls Try.prog 16 #[u9000_, .int .i64 a1] w fun e w' => e = .returned (.int .i64 r1) ∧ Kd.R k67 67 w' w0.heap.size (fun k_ => (P0_ k_ ∨ w.heap.size ≤ k_)) u9000_ r2 ∧ Below w0.heap.size w0 w' ∧ Kept w w' (fun k_ => P0_ k_) := by
  have HO0 := Aside0.mk (show Kd.R k67 67 w w0.heap.size (fun k_ => (P0_ k_ ∨ w.heap.size ≤ k_)) u9000_ l0 from Kd.R_mono ho0 (fun k_ hk => (.inl hk)))
  have HK := Aside0.mk (Kept.refl w (fun k_ => P0_ k_))
  have HW0 := Aside0.mk hB.size
  have HB := Aside0.mk hB
  clear hB
  have H : (laws_markSpotS.l0 k l0 a1 0) = some (r1, r2) := h
  clear h
  have H' := Aside0.mk H
  clear H
  go_enter Try.func16, Try.ntmps16
  go_wp2
  go_loopg [1, 5] k (fun kq v1 v5 w' => ∃ (x0_1 : List (S67)) (x1_1 : Int) (x5_1 : Int), v1 = .int .i64 x1_1 ∧ v5 = .int .i64 x5_1 ∧ Aside0 (laws_markSpotS.l0 kq x0_1 x1_1 x5_1 = some (r1, r2)) ∧ Aside0 (kq ≤ k) ∧ Aside0 (Kd.R k67 67 w' w0.heap.size (fun k_ => (P0_ k_ ∨ w.heap.size ≤ k_)) u9000_ x0_1) ∧ Aside0 (Kept w w' (fun k_ => P0_ k_)) ∧ Aside0 (Below w0.heap.size w0 w'))
  case atStart => exact ⟨(l0), (a1), (0), (by first | rfl | (simp; done) | (simp [*]; done)), (by first | rfl | (simp; done) | (simp [*]; done)), H', ⟨Nat.le_refl _⟩, ⟨by (with_reducible repeat (first | apply Kd.R_alloc | apply Kd.R_drewN | apply Kd.R_drew)); exact HO0.out⟩, ⟨by repeat (first | (with_reducible first | exact HK.out | apply Kept.alloc | apply Kept.drewN | apply Kept.drew) | exact HK.out)⟩, ⟨by repeat (first | (with_reducible first | exact HB.out | apply below_alloc | apply pw_below_drewN | apply below_drew1) | exact HB.out)⟩⟩
  case round =>
    clear H'
    try clear c1
    try clear p2
    obtain ⟨x0_1, x1_1, x5_1, rfl, rfl, HA, HK1, HO_0, HK, HB⟩ := hrel
    cases gk with
    | zero => exact absurd HA.out (by simp [laws_markSpotS.l0])
    | succ k1 =>
      have H := HA.out
      clear HA
      simp only [laws_markSpotS.l0] at H
      by_cases c3 : x5_1 < (x0_1.length : Int)
      · rw [if_pos c3] at H
        have c3b0 : decide (x5_1 < (x0_1.length : Int)) = true := decide_eq_true c3
        clear c3
        by_cases c4 : 0 ≤ x5_1
        · rw [if_pos c4] at H
          have c4b0 : decide (0 ≤ x5_1) = true := decide_eq_true c4
          clear c4
          obtain ⟨y101, hy101⟩ : ∃ y_ : List (S67), y_ = (x0_1.set (x5_1 : Int).toNat (⟨IntKind.u16.wrap (x1_1), (rd_T67 x0_1 x5_1).f1⟩ : S67)) := ⟨_, rfl⟩
          replace H : (laws_markSpotS.l0 k1 (y101.set (x5_1 : Int).toNat (⟨(rd_T67 y101 x5_1).f0, IntKind.u16.wrap (wrap64 (x1_1 + 1))⟩ : S67)) (wrap64 ((wrap64 (x1_1 + 1)) + 1)) (wrap64 (x5_1 + 1))) = some (r1, r2) := by first | (rw [hy101]; with_reducible exact H) | (have H2_ := (Option.bind_some _ _).symm.trans H; rw [hy101]; with_reducible exact H2_) | (have H2_ := (Option.bind_some _ _).symm.trans H; with_reducible exact H2_) | with_reducible exact H | (rw [hy101]; exact H) | exact H
          have Ny101 := Aside0.mk hy101
          clear hy101
          obtain ⟨y102, hy102⟩ : ∃ y_ : List (S67), y_ = (y101.set (x5_1 : Int).toNat (⟨(rd_T67 y101 x5_1).f0, IntKind.u16.wrap (wrap64 (x1_1 + 1))⟩ : S67)) := ⟨_, rfl⟩
          replace H : (laws_markSpotS.l0 k1 y102 (wrap64 ((wrap64 (x1_1 + 1)) + 1)) (wrap64 (x5_1 + 1))) = some (r1, r2) := by first | (rw [hy102]; with_reducible exact H) | (have H2_ := (Option.bind_some _ _).symm.trans H; rw [hy102]; with_reducible exact H2_) | (have H2_ := (Option.bind_some _ _).symm.trans H; with_reducible exact H2_) | with_reducible exact H | (rw [hy102]; exact H) | exact H
          have Ny102 := Aside0.mk hy102
          clear hy102
          have H' := Aside0.mk H
          clear H
          obtain ⟨Ao7, co7, eo7⟩ := Kd.R_slice HO_0.out
          subst eo7
          have p5 : 0 ≤ (x5_1 : Int) := of_decide_eq_true (by first | (with_reducible assumption) | assumption)
          have q5 : (x5_1 : Int) < ((x0_1.length : Int) : Int) := of_decide_eq_true (by first | (with_reducible assumption) | assumption)
          obtain ⟨go5, co5, eo5, gb5, gl5, cl5, HG5⟩ := Kd.R_form HO_0.out (by omega)
          (first | cases eo5 | (injection eo5 with ea_ en_ ec_; (first | subst ea_ | (injection ea_ with ea_; subst ea_)); subst ec_; clear en_))
          have GB5 := Aside0.mk gb5
          have GG5 := Aside0.mk HG5
          clear gb5 gl5 HG5
          have HMgo5 := Aside0.mk (show (P0_ go5 ∨ w.heap.size ≤ go5) from (HO_0.out.1 _ rfl))
          obtain ⟨ce5, hcl5, hM5, hcc5, hfr5⟩ := Kd.R_elem HO_0.out z67 (x5_1 : Int) p5 q5
          obtain rfl := k67_openM hM5
          have hx5_0 : wr.cell? ⟨go5, (x5_1 : Int).toNat * 2, none⟩ = some (.int .u16 ((rd_T67 x0_1 x5_1).f0)) := hcc5 0 _ rfl
          have hx5_1 : wr.cell? ⟨go5, (x5_1 : Int).toNat * 2 + 1, none⟩ = some (.int .u16 ((rd_T67 x0_1 x5_1).f1)) := hcc5 1 _ rfl
          have hf5_0 : wr.frozen? ⟨go5, (x5_1 : Int).toNat * 2, none⟩ = false := hfr5 0
          have hf5_1 : wr.frozen? ⟨go5, (x5_1 : Int).toNat * 2 + 1, none⟩ = false := hfr5 1
          clear hcl5 hcc5 hfr5 hM5
          replace p5 := eq_true p5
          replace q5 := eq_true q5
          have HX8 := Aside0.mk (show Kd.R k67 67 wr w0.heap.size (fun k_ => (P0_ k_ ∨ w.heap.size ≤ k_)) (.slice (some ⟨go5, 0, none⟩) x0_1.length co7) x0_1 from (by (with_reducible repeat (first | apply Kd.R_alloc | apply Kd.R_drewN | apply Kd.R_drew)); exact HO_0.out))
          obtain ⟨ce8, hcl8, hM8, hcc8, hfr8⟩ := Kd.R_elem HX8.out z67 (x5_1 : Int) (of_decide_eq_true (by first | (with_reducible assumption) | assumption)) (by have h_ : (x5_1 : Int) < ((x0_1.length : Int) : Int) := of_decide_eq_true (by first | (with_reducible assumption) | assumption); first | exact h_ | (have e_ := (Kd.R_reads' HO_0.out).1; omega) | simpa using h_)
          obtain rfl := k67_openM hM8
          have HP8 := Kd.R_seg HX8.out (x5_1 : Int) (of_decide_eq_true (by first | (with_reducible assumption) | assumption)) (by have h_ : (x5_1 : Int) < ((x0_1.length : Int) : Int) := of_decide_eq_true (by first | (with_reducible assumption) | assumption); first | exact h_ | (have e_ := (Kd.R_reads' HO_0.out).1; omega) | simpa using h_) (seg := [.int .u16 (IntKind.u16.wrap (x1_1))]) (j := 0) hcl8 hcc8 (show 1 ≤ 2 from by decide) (x' := (⟨IntKind.u16.wrap (x1_1), (rd_T67 x0_1 x5_1).f1⟩ : S67)) (k67_mkM _ _ _ (⟨IntKind.u16.wrap (x1_1), (rd_T67 x0_1 x5_1).f1⟩ : S67) ) (fun _ hk => hk)
          have hx8_0 := hcc8 0 _ rfl
          (try simp only [show (k67).sz = 2 from rfl, Nat.mul_one, Nat.add_zero] at hx8_0)
          have hf8_0 := hfr8 0
          (try simp only [show (k67).sz = 2 from rfl, Nat.mul_one, Nat.add_zero] at hf8_0)
          clear hcl8 hcc8 hfr8 hM8
          go_wp2_with (first | ((with_reducible refine gate_store (t := 36) (p := 17) rfl ?_); refine store_event (t := 36) (p := 17) (v := ?vo_w9) (w1 := (wr.setCell ⟨go5, (x5_1 : Int).toNat * 2, none⟩ (.int .u16 (IntKind.u16.wrap (x1_1))))) ?hg ?ho ?hn ?hr ?_; (case ho => rfl); (case hg => rfl); (case hn => rfl); (case hr => first | (go_simp; done) | (go_simp; rfl)); intro w9 hw; have hg : wr.grownBy w9 (some go5) := (by rw [hw]; exact HP8.2); have hp_ : Kd.R k67 67 w9 w0.heap.size (fun k_ => (P0_ k_ ∨ w.heap.size ≤ k_)) (.slice (some ⟨go5, 0, none⟩) x0_1.length co7) y101 := (by rw [hw, Ny101.out]; exact HP8.1); clear HP8; have n0_ := Aside0.mk (hp_); have n1_ := Aside0.mk ((by rw [hw]; exact below_set (HB.out) GB5.out : Below w0.heap.size w0 w9)); have n2_ := Aside0.mk (Kept.of_grown (S := (fun k_ => P0_ k_)) hg (by repeat (first | (with_reducible first | exact HK.out | apply Kept.alloc | apply Kept.drewN | apply Kept.drew) | exact HK.out)) (fun k_ e_ => (HO_0.out.1 k_ e_))); clear HO_0; clear HB; clear HK; have HO_0 := n0_; have HB := n1_; have HK := n2_; clear n0_ n1_ n2_; clear hg hw hp_; have p6 : 0 ≤ (x5_1 : Int) := of_decide_eq_true (by first | (with_reducible assumption) | assumption); have q6 : (x5_1 : Int) < ((x0_1.length : Int) : Int) := of_decide_eq_true (by first | (with_reducible assumption) | assumption); obtain ⟨ce6, hcl6, hM6, hcc6, hfr6⟩ := Kd.R_elem HO_0.out z67 (x5_1 : Int) p6 q6; obtain rfl := k67_openM hM6; have hx6_0 : w9.cell? ⟨go5, (x5_1 : Int).toNat * 2, none⟩ = some (.int .u16 ((rd_T67 y101 x5_1).f0)) := hcc6 0 _ rfl; have hx6_1 : w9.cell? ⟨go5, (x5_1 : Int).toNat * 2 + 1, none⟩ = some (.int .u16 ((rd_T67 y101 x5_1).f1)) := hcc6 1 _ rfl; have hf6_0 : w9.frozen? ⟨go5, (x5_1 : Int).toNat * 2, none⟩ = false := hfr6 0; have hf6_1 : w9.frozen? ⟨go5, (x5_1 : Int).toNat * 2 + 1, none⟩ = false := hfr6 1; clear hcl6 hcc6 hfr6 hM6; replace p6 := eq_true p6; replace q6 := eq_true q6; have HX10 := Aside0.mk (show Kd.R k67 67 w9 w0.heap.size (fun k_ => (P0_ k_ ∨ w.heap.size ≤ k_)) (.slice (some ⟨go5, 0, none⟩) x0_1.length co7) y101 from (by (with_reducible repeat (first | apply Kd.R_alloc | apply Kd.R_drewN | apply Kd.R_drew)); exact HO_0.out)); obtain ⟨ce10, hcl10, hM10, hcc10, hfr10⟩ := Kd.R_elem HX10.out z67 (x5_1 : Int) (of_decide_eq_true (by first | (with_reducible assumption) | assumption)) (by have h_ : (x5_1 : Int) < ((x0_1.length : Int) : Int) := of_decide_eq_true (by first | (with_reducible assumption) | assumption); first | exact h_ | (have e_ := (Kd.R_reads' HO_0.out).1; omega) | simpa using h_); obtain rfl := k67_openM hM10; have HP10 := Kd.R_seg HX10.out (x5_1 : Int) (of_decide_eq_true (by first | (with_reducible assumption) | assumption)) (by have h_ : (x5_1 : Int) < ((x0_1.length : Int) : Int) := of_decide_eq_true (by first | (with_reducible assumption) | assumption); first | exact h_ | (have e_ := (Kd.R_reads' HO_0.out).1; omega) | simpa using h_) (seg := [.int .u16 (IntKind.u16.wrap (wrap64 (x1_1 + 1)))]) (j := 1) hcl10 hcc10 (show 2 ≤ 2 from by decide) (x' := (⟨(rd_T67 y101 x5_1).f0, IntKind.u16.wrap (wrap64 (x1_1 + 1))⟩ : S67)) (k67_mkM _ _ _ (⟨(rd_T67 y101 x5_1).f0, IntKind.u16.wrap (wrap64 (x1_1 + 1))⟩ : S67) ) (fun _ hk => hk); have hx10_1 := hcc10 1 _ rfl; (try simp only [show (k67).sz = 2 from rfl, Nat.mul_one, Nat.add_zero] at hx10_1); have hf10_1 := hfr10 1; (try simp only [show (k67).sz = 2 from rfl, Nat.mul_one, Nat.add_zero] at hf10_1); clear hcl10 hcc10 hfr10 hM10) | ((with_reducible refine gate_store (t := 36) (p := 25) rfl ?_); refine store_event (t := 36) (p := 25) (v := ?vo_w11) (w1 := (w9.setCell ⟨go5, (x5_1 : Int).toNat * 2 + 1, none⟩ (.int .u16 (IntKind.u16.wrap (wrap64 (x1_1 + 1)))))) ?hg ?ho ?hn ?hr ?_; (case ho => rfl); (case hg => rfl); (case hn => rfl); (case hr => first | (go_simp; done) | (go_simp; rfl)); intro w11 hw; have hg : w9.grownBy w11 (some go5) := (by rw [hw]; exact HP10.2); have hp_ : Kd.R k67 67 w11 w0.heap.size (fun k_ => (P0_ k_ ∨ w.heap.size ≤ k_)) (.slice (some ⟨go5, 0, none⟩) x0_1.length co7) y102 := (by rw [hw, Ny102.out]; exact HP10.1); clear HP10; have n0_ := Aside0.mk (hp_); have n1_ := Aside0.mk ((by rw [hw]; exact below_set (HB.out) GB5.out : Below w0.heap.size w0 w11)); have n2_ := Aside0.mk (Kept.of_grown (S := (fun k_ => P0_ k_)) hg (by repeat (first | (with_reducible first | exact HK.out | apply Kept.alloc | apply Kept.drewN | apply Kept.drew) | exact HK.out)) (fun k_ e_ => (HO_0.out.1 k_ e_))); clear HO_0; clear HB; clear HK; have HO_0 := n0_; have HB := n1_; have HK := n2_; clear n0_ n1_ n2_; clear hg hw hp_))
          go_roundg k1
          case measure => have := HK1.out; omega
          case rel => exact ⟨(y102), (wrap64 ((wrap64 (x1_1 + 1)) + 1)), (wrap64 (x5_1 + 1)), (by first | rfl | (simp; done) | (simp [*]; done)), (by first | rfl | (simp; done) | (simp [*]; done)), H', ⟨by have := HK1.out; omega⟩, ⟨by (with_reducible repeat (first | apply Kd.R_alloc | apply Kd.R_drewN | apply Kd.R_drew)); exact HO_0.out⟩, ⟨by repeat (first | (with_reducible first | exact HK.out | apply Kept.alloc | apply Kept.drewN | apply Kept.drew) | exact HK.out)⟩, ⟨by repeat (first | (with_reducible first | exact HB.out | apply below_alloc | apply pw_below_drewN | apply below_drew1) | exact HB.out)⟩⟩
        · rw [if_neg c4] at H
          exact absurd H (by simp)
      · rw [if_neg c3] at H
        have c3b0 : decide (x5_1 < (x0_1.length : Int)) = false := decide_eq_false c3
        clear c3
        simp only [Option.some.injEq, Prod.mk.injEq] at H
        obtain ⟨rfl, rfl⟩ := H
        obtain ⟨Ao12, co12, eo12⟩ := Kd.R_slice HO_0.out
        subst eo12
        go_wp2
        go_ret
        exact ⟨by first | rfl | (simp [errW_none, errW_some] <;> rfl) | (simp [*, errW_none, errW_some] <;> rfl), by (with_reducible repeat (first | apply Kd.R_alloc | apply Kd.R_drewN | apply Kd.R_drew)); exact HO_0.out, by repeat (first | (with_reducible first | exact HB.out | apply below_alloc | apply pw_below_drewN | apply below_drew1) | exact HB.out), by repeat (first | (with_reducible first | exact HK.out | apply Kept.alloc | apply Kept.drewN | apply Kept.drew) | exact HK.out)⟩
end Go.Proofs.Ytadfobooofkelaa.X

-- Laid by wip/xprint.py of this session (the kit's print program, with some contracts given by hand). Not trusted: Lean checks it.
namespace Go.Proofs.Ytadfobooofkelaa.X
open Go.RowKit Go.Proofs.YtadfobooofkelaaW.PrintWords Go.Proofs.YtadfobooofkelaaW.PrintLast Go.Proofs.YtadfobooofkelaaW.PrintMore
attribute [local go_sem] max2_int min2_int max_two min_two max_three min_three max_four min_four
set_option linter.unusedVariables false
set_option linter.unusedSimpArgs false
def laws_markPoly.l0 : Nat → List Int → Int → Int → Option (Int × List Int)
  | 0, _, _, _ => none
  | k + 1, x0, x1, x5 => if x5 < (x0.length : Int) then (if 0 ≤ x5 then (laws_markPoly.l0 k (x0.set (x5 : Int).toNat (IntKind.u16.wrap (x1))) (wrap64 (x1 + 1)) (wrap64 (x5 + 1))) else (none)) else (some (x1, x0))
def laws_markPoly.f (k : Nat) (l0 : List Int) (a1 : Int) : Option (Int × List Int) := laws_markPoly.l0 k l0 a1 0
set_option maxHeartbeats 8000000 in
set_option maxRecDepth 100000 in
theorem laws_markPoly.calls (k : Nat) (P0_ : Nat → Prop) (u9000_ : Value) (l0 : List Int) (a1 : Int) (r1 : Int) (r2 : List Int) (w0 w : World) (hB : Below w0.heap.size w0 w) (ho0 : Kd.R (Kd.int .u16) 36 w w0.heap.size P0_ u9000_ l0) (h : laws_markPoly.f k l0 a1 = some (r1, r2)) :
    Calls Try.prog 17 #[u9000_, .int .i64 a1] w fun e w' => e = .returned (.int .i64 r1) ∧ Kd.R (Kd.int .u16) 36 w' w0.heap.size (fun k_ => (P0_ k_ ∨ w.heap.size ≤ k_)) u9000_ r2 ∧ Below w0.heap.size w0 w' ∧ Kept w w' (fun k_ => P0_ k_) := by
  have HO0 := Aside0.mk (show Kd.R (Kd.int .u16) 36 w w0.heap.size (fun k_ => (P0_ k_ ∨ w.heap.size ≤ k_)) u9000_ l0 from Kd.R_mono ho0 (fun k_ hk => (.inl hk)))
  have HK := Aside0.mk (Kept.refl w (fun k_ => P0_ k_))
  have HW0 := Aside0.mk hB.size
  have HB := Aside0.mk hB
  clear hB
  have H : (laws_markPoly.l0 k l0 a1 0) = some (r1, r2) := h
  clear h
  have H' := Aside0.mk H
  clear H
  go_enter Try.func17, Try.ntmps17
  go_wp2
  go_loopg [1, 5] k (fun kq v1 v5 w' => ∃ (x0_1 : List Int) (x1_1 : Int) (x5_1 : Int), v1 = .int .i64 x1_1 ∧ v5 = .int .i64 x5_1 ∧ Aside0 (laws_markPoly.l0 kq x0_1 x1_1 x5_1 = some (r1, r2)) ∧ Aside0 (kq ≤ k) ∧ Aside0 (Kd.R (Kd.int .u16) 36 w' w0.heap.size (fun k_ => (P0_ k_ ∨ w.heap.size ≤ k_)) u9000_ x0_1) ∧ Aside0 (Kept w w' (fun k_ => P0_ k_)) ∧ Aside0 (Below w0.heap.size w0 w'))
  case atStart => exact ⟨(l0), (a1), (0), (by first | rfl | (simp; done) | (simp [*]; done)), (by first | rfl | (simp; done) | (simp [*]; done)), H', ⟨Nat.le_refl _⟩, ⟨by (with_reducible repeat (first | apply Kd.R_alloc | apply Kd.R_drewN | apply Kd.R_drew)); exact HO0.out⟩, ⟨by repeat (first | (with_reducible first | exact HK.out | apply Kept.alloc | apply Kept.drewN | apply Kept.drew) | exact HK.out)⟩, ⟨by repeat (first | (with_reducible first | exact HB.out | apply below_alloc | apply pw_below_drewN | apply below_drew1) | exact HB.out)⟩⟩
  case round =>
    clear H'
    try clear c1
    try clear p2
    obtain ⟨x0_1, x1_1, x5_1, rfl, rfl, HA, HK1, HO_0, HK, HB⟩ := hrel
    cases gk with
    | zero => exact absurd HA.out (by simp [laws_markPoly.l0])
    | succ k1 =>
      have H := HA.out
      clear HA
      simp only [laws_markPoly.l0] at H
      by_cases c3 : x5_1 < (x0_1.length : Int)
      · rw [if_pos c3] at H
        have c3b0 : decide (x5_1 < (x0_1.length : Int)) = true := decide_eq_true c3
        clear c3
        by_cases c4 : 0 ≤ x5_1
        · rw [if_pos c4] at H
          have c4b0 : decide (0 ≤ x5_1) = true := decide_eq_true c4
          clear c4
          obtain ⟨y101, hy101⟩ : ∃ y_ : List Int, y_ = (x0_1.set (x5_1 : Int).toNat (IntKind.u16.wrap (x1_1))) := ⟨_, rfl⟩
          replace H : (laws_markPoly.l0 k1 y101 (wrap64 (x1_1 + 1)) (wrap64 (x5_1 + 1))) = some (r1, r2) := by first | (rw [hy101]; with_reducible exact H) | (have H2_ := (Option.bind_some _ _).symm.trans H; rw [hy101]; with_reducible exact H2_) | (have H2_ := (Option.bind_some _ _).symm.trans H; with_reducible exact H2_) | with_reducible exact H | (rw [hy101]; exact H) | exact H
          have Ny101 := Aside0.mk hy101
          clear hy101
          have H' := Aside0.mk H
          clear H
          obtain ⟨Ao6, co6, eo6⟩ := Kd.R_slice HO_0.out
          subst eo6
          have p5 : 0 ≤ (x5_1 : Int) := of_decide_eq_true (by first | (with_reducible assumption) | assumption)
          have q5 : (x5_1 : Int) < ((x0_1.length : Int) : Int) := of_decide_eq_true (by first | (with_reducible assumption) | assumption)
          obtain ⟨go5, co5, eo5, gb5, gl5, cl5, HG5⟩ := Kd.R_form HO_0.out (by omega)
          (first | cases eo5 | (injection eo5 with ea_ en_ ec_; (first | subst ea_ | (injection ea_ with ea_; subst ea_)); subst ec_; clear en_))
          have GB5 := Aside0.mk gb5
          have GG5 := Aside0.mk HG5
          clear gb5 gl5 HG5
          have HMgo5 := Aside0.mk (show (P0_ go5 ∨ w.heap.size ≤ go5) from (HO_0.out.1 _ rfl))
          obtain ⟨hx5_0, hf5_0⟩ := Kd.R_celln 0 HO_0.out (x5_1 : Int) p5 q5
          replace p5 := eq_true p5
          replace q5 := eq_true q5
          have HP7 := Kd.R_putg HO_0.out (x5_1 : Int) (IntKind.u16.wrap (x1_1))
          go_wp2_with (first | ((with_reducible refine gate_store (t := 36) (p := 16) rfl ?_); refine store_event (t := 36) (p := 16) (v := ?vo_w8) (w1 := (wr.setCell ⟨go5, (x5_1 : Int).toNat, none⟩ (.int .u16 (IntKind.u16.wrap (x1_1))))) ?hg ?ho ?hn ?hr ?_; (case ho => rfl); (case hg => rfl); (case hn => rfl); (case hr => first | (go_simp; done) | (go_simp; rfl)); intro w8 hw; have hg : wr.grownBy w8 (some go5) := (by rw [hw]; exact HP7.2); have hp_ : Kd.R (Kd.int .u16) 36 w8 w0.heap.size (fun k_ => (P0_ k_ ∨ w.heap.size ≤ k_)) (.slice (some ⟨go5, 0, none⟩) x0_1.length co6) y101 := (by rw [hw, Ny101.out]; exact HP7.1); clear HP7; have n0_ := Aside0.mk (hp_); have n1_ := Aside0.mk ((by rw [hw]; exact below_set (HB.out) GB5.out : Below w0.heap.size w0 w8)); have n2_ := Aside0.mk (Kept.of_grown (S := (fun k_ => P0_ k_)) hg (by repeat (first | (with_reducible first | exact HK.out | apply Kept.alloc | apply Kept.drewN | apply Kept.drew) | exact HK.out)) (fun k_ e_ => (HO_0.out.1 k_ e_))); clear HO_0; clear HB; clear HK; have HO_0 := n0_; have HB := n1_; have HK := n2_; clear n0_ n1_ n2_; clear hg hw hp_))
          go_roundg k1
          case measure => have := HK1.out; omega
          case rel => exact ⟨(y101), (wrap64 (x1_1 + 1)), (wrap64 (x5_1 + 1)), (by first | rfl | (simp; done) | (simp [*]; done)), (by first | rfl | (simp; done) | (simp [*]; done)), H', ⟨by have := HK1.out; omega⟩, ⟨by (with_reducible repeat (first | apply Kd.R_alloc | apply Kd.R_drewN | apply Kd.R_drew)); exact HO_0.out⟩, ⟨by repeat (first | (with_reducible first | exact HK.out | apply Kept.alloc | apply Kept.drewN | apply Kept.drew) | exact HK.out)⟩, ⟨by repeat (first | (with_reducible first | exact HB.out | apply below_alloc | apply pw_below_drewN | apply below_drew1) | exact HB.out)⟩⟩
        · rw [if_neg c4] at H
          exact absurd H (by simp)
      · rw [if_neg c3] at H
        have c3b0 : decide (x5_1 < (x0_1.length : Int)) = false := decide_eq_false c3
        clear c3
        simp only [Option.some.injEq, Prod.mk.injEq] at H
        obtain ⟨rfl, rfl⟩ := H
        obtain ⟨Ao9, co9, eo9⟩ := Kd.R_slice HO_0.out
        subst eo9
        go_wp2
        go_ret
        exact ⟨by first | rfl | (simp [errW_none, errW_some] <;> rfl) | (simp [*, errW_none, errW_some] <;> rfl), by (with_reducible repeat (first | apply Kd.R_alloc | apply Kd.R_drewN | apply Kd.R_drew)); exact HO_0.out, by repeat (first | (with_reducible first | exact HB.out | apply below_alloc | apply pw_below_drewN | apply below_drew1) | exact HB.out), by repeat (first | (with_reducible first | exact HK.out | apply Kept.alloc | apply Kept.drewN | apply Kept.drew) | exact HK.out)⟩
end Go.Proofs.Ytadfobooofkelaa.X

-- Laid by wip/xprint.py of this session (the kit's print program, with some contracts given by hand). Not trusted: Lean checks it.
namespace Go.Proofs.Ytadfobooofkelaa.X
open Go.RowKit Go.Proofs.YtadfobooofkelaaW.PrintWords Go.Proofs.YtadfobooofkelaaW.PrintLast Go.Proofs.YtadfobooofkelaaW.PrintMore
attribute [local go_sem] max2_int min2_int max_two min_two max_three min_three max_four min_four
set_option linter.unusedVariables false
set_option linter.unusedSimpArgs false
def laws_heldPoly.l0 : Nat → List Int → Int → Int → Option (Int)
  | 0, _, _, _ => none
  | k + 1, x0, x1, x5 => if x5 < (x0.length : Int) then (if 0 ≤ x5 then (if (rd x0 x5) = (IntKind.u16.wrap (x1)) then (laws_heldPoly.l0 k x0 (wrap64 (x1 + 1)) (wrap64 (x5 + 1))) else (some (-1))) else (none)) else (some x1)
def laws_heldPoly.f (k : Nat) (l0 : List Int) (a1 : Int) : Option (Int) := laws_heldPoly.l0 k l0 a1 0
set_option maxHeartbeats 8000000 in
set_option maxRecDepth 100000 in
theorem laws_heldPoly.calls (k : Nat) (A0 : Option Addr) (c0 : Nat) (l0 : List Int) (a1 : Int) (r : Int) (w : World) (hr0 : Kd.C (Kd.int .u16) w A0 l0.length l0) (hc0 : l0.length ≤ c0) (h : laws_heldPoly.f k l0 a1 = some r) :
    Calls Try.prog 18 #[.slice A0 l0.length c0, .int .i64 a1] w fun e w' => e = .returned (.int .i64 r) ∧ Drawn0 w w' := by
  have HR0 := Aside0.mk hr0
  have HC0 := Aside0.mk hc0
  clear hr0 hc0
  have H : (laws_heldPoly.l0 k l0 a1 0) = some r := h
  clear h
  have H' := Aside0.mk H
  clear H
  go_enter Try.func18, Try.ntmps18
  go_wp2
  go_loopg [1, 5] k (fun kq v1 v5 w' => ∃ (x1_1 : Int) (x5_1 : Int), v1 = .int .i64 x1_1 ∧ v5 = .int .i64 x5_1 ∧ Aside0 (laws_heldPoly.l0 kq l0 x1_1 x5_1 = some r) ∧ Aside0 (kq ≤ k) ∧ Drawn0 w w')
  case atStart => exact ⟨(a1), (0), (by first | rfl | (simp; done) | (simp [*]; done)), (by first | rfl | (simp; done) | (simp [*]; done)), H', ⟨Nat.le_refl _⟩, by repeat (first | exact Drawn0.refl _ | apply Drawn0.step)⟩
  case round =>
    clear H'
    try clear c1
    try clear p2
    obtain ⟨x1_1, x5_1, rfl, rfl, HA, HK1, ⟨m1, rfl⟩⟩ := hrel
    cases gk with
    | zero => exact absurd HA.out (by simp [laws_heldPoly.l0])
    | succ k1 =>
      have H := HA.out
      clear HA
      simp only [laws_heldPoly.l0] at H
      by_cases c3 : x5_1 < (l0.length : Int)
      · rw [if_pos c3] at H
        have c3b0 : decide (x5_1 < (l0.length : Int)) = true := decide_eq_true c3
        clear c3
        by_cases c4 : 0 ≤ x5_1
        · rw [if_pos c4] at H
          have c4b0 : decide (0 ≤ x5_1) = true := decide_eq_true c4
          clear c4
          by_cases c5 : (rd l0 x5_1) = (IntKind.u16.wrap (x1_1))
          · rw [if_pos c5] at H
            have c5b0 : ((rd l0 x5_1) == (IntKind.u16.wrap (x1_1))) = true := beq_iff_eq.mpr c5
            have c5b1 : ((rd l0 x5_1) != (IntKind.u16.wrap (x1_1))) = false := bne_eq_false_iff_eq.mpr c5
            clear c5
            have H' := Aside0.mk H
            clear H
            have p101 : 0 ≤ (x5_1 : Int) := of_decide_eq_true (by first | (with_reducible assumption) | assumption)
            have q101 : x5_1 < (l0.length : Int) := of_decide_eq_true (by first | (with_reducible assumption) | assumption)
            obtain ⟨ad101, e101, hx101_0⟩ := Kd.at_int HR0.out x5_1 p101 q101
            cases e101
            replace p101 := eq_true p101
            replace q101 := eq_true q101
            go_wp2
            go_roundg k1
            case measure => have := HK1.out; omega
            case rel => exact ⟨(wrap64 (x1_1 + 1)), (wrap64 (x5_1 + 1)), (by first | rfl | (simp; done) | (simp [*]; done)), (by first | rfl | (simp; done) | (simp [*]; done)), H', ⟨by have := HK1.out; omega⟩, by repeat (first | exact Drawn0.refl _ | apply Drawn0.step)⟩
          · rw [if_neg c5] at H
            have c5b0 : ((rd l0 x5_1) == (IntKind.u16.wrap (x1_1))) = false := beq_eq_false_iff_ne.mpr c5
            have c5b1 : ((rd l0 x5_1) != (IntKind.u16.wrap (x1_1))) = true := bne_iff_ne.mpr c5
            obtain rfl := Option.some.inj H
            have p101 : 0 ≤ (x5_1 : Int) := of_decide_eq_true (by first | (with_reducible assumption) | assumption)
            have q101 : x5_1 < (l0.length : Int) := of_decide_eq_true (by first | (with_reducible assumption) | assumption)
            obtain ⟨ad101, e101, hx101_0⟩ := Kd.at_int HR0.out x5_1 p101 q101
            cases e101
            replace p101 := eq_true p101
            replace q101 := eq_true q101
            go_wp2
            go_ret
            exact ⟨by first | rfl | (simp; done) | (simp [*]; done), by repeat (first | exact Drawn0.refl _ | apply Drawn0.step)⟩
        · rw [if_neg c4] at H
          exact absurd H (by simp)
      · rw [if_neg c3] at H
        have c3b0 : decide (x5_1 < (l0.length : Int)) = false := decide_eq_false c3
        clear c3
        obtain rfl := Option.some.inj H
        go_wp2
        go_ret
        exact ⟨by first | rfl | (simp; done) | (simp [*]; done), by repeat (first | exact Drawn0.refl _ | apply Drawn0.step)⟩
end Go.Proofs.Ytadfobooofkelaa.X

-- Laid by wip/xprint.py of this session (the kit's print program, with some contracts given by hand). Not trusted: Lean checks it.
namespace Go.Proofs.Ytadfobooofkelaa.X
open Go.RowKit Go.Proofs.YtadfobooofkelaaW.PrintWords Go.Proofs.YtadfobooofkelaaW.PrintLast Go.Proofs.YtadfobooofkelaaW.PrintMore
attribute [local go_sem] max2_int min2_int max_two min_two max_three min_three max_four min_four
set_option linter.unusedVariables false
set_option linter.unusedSimpArgs false
mutual
def laws_FnExactPolyThrough.j0 : Nat → List (S107) → List Int → Int → List (S67) → List Int → Int → Bool → Option (Bool)
  | 0, _, _, _, _, _, _, _ => none
  | k + 1, x0, x4, x5, x6, x7, x8, x40 => if x40 = true then (none) else ((laws_toSpotS.f k x0).bind fun t117 => ((laws_eqSpotS.f k x6 t117).bind fun t120 => (if t120 = true then ((laws_markSpotS.f k x6 1).bind fun bt121 => (if bt121.1 < 0 then (laws_FnExactPolyThrough.j1 k x0 x4 x5 x7 true) else ((laws_eqPoly.f k x7 x4).bind fun t123 => (if t123 = true then (laws_FnExactPolyThrough.j1 k x0 x4 x5 x7 (x8 != x5)) else (laws_FnExactPolyThrough.j1 k x0 x4 x5 x7 true))))) else (none))))
def laws_FnExactPolyThrough.j1 : Nat → List (S107) → List Int → Int → List Int → Bool → Option (Bool)
  | 0, _, _, _, _, _ => none
  | k + 1, x0, x4, x5, x7, x61 => if x61 = true then (none) else ((laws_markPoly.f k x7 1).bind fun bt124 => ((laws_heldPoly.f k bt124.2 1).bind fun t126 => (if t126 < 0 then (none) else (if t126 = bt124.1 then ((laws_toSpotS.f k x0).bind fun t127 => ((impl_PolyThrough.f k t127).bind fun bt130 => ((laws_eqPoly.f k bt130.1 x4).bind fun t134 => (if t134 = true then (laws_FnExactPolyThrough.j2 k bt124.2 bt124.1 (bt130.2 != x5)) else (laws_FnExactPolyThrough.j2 k bt124.2 bt124.1 true))))) else (none)))))
def laws_FnExactPolyThrough.j2 : Nat → List Int → Int → Bool → Option (Bool)
  | 0, _, _, _ => none
  | k + 1, x7, x10, x87 => if x87 = true then (none) else ((laws_heldPoly.f k x7 1).bind fun t135 => (if t135 < 0 then (none) else (if t135 = x10 then (some true) else (none))))
end
def laws_FnExactPolyThrough.f (k : Nat) (l0 : List (S107)) : Option (Bool) := (laws_szSpotS.f l0 1048576).bind fun t101 => (if t101 < 0 then (some true) else ((laws_toSpotS.f k l0).bind fun t102 => ((spec_PolyThrough.f k t102).bind fun bt105 => ((laws_toSpotS.f k l0).bind fun t109 => ((impl_PolyThrough.f k t109).bind fun bt112 => ((laws_eqPoly.f k bt112.1 bt105.1).bind fun t116 => (if t116 = true then (laws_FnExactPolyThrough.j0 k l0 bt105.1 bt105.2 t109 bt112.1 bt112.2 (bt112.2 != bt105.2)) else (laws_FnExactPolyThrough.j0 k l0 bt105.1 bt105.2 t109 bt112.1 bt112.2 true))))))))
set_option maxHeartbeats 8000000 in
set_option maxRecDepth 100000 in
theorem laws_FnExactPolyThrough.calls (k : Nat) (A0 : Option Addr) (c0 : Nat) (l0 : List (S107)) (r : Bool) (w : World) (hr0 : Kd.C k107 w A0 l0.length l0) (hc0 : l0.length ≤ c0) (h : laws_FnExactPolyThrough.f k l0 = some r) :
    Calls Try.prog 3 #[.slice A0 l0.length c0] w fun e w' => e = .returned (.bool r) ∧ Below w.heap.size w w' := by
  have HR0 := Aside0.mk hr0
  have HC0 := Aside0.mk hc0
  clear hr0 hc0
  have HB := Aside0.mk (Below.refl w.heap.size w)
  have H : ((laws_szSpotS.f l0 1048576).bind fun t101 => (if t101 < 0 then (some true) else ((laws_toSpotS.f k l0).bind fun t102 => ((spec_PolyThrough.f k t102).bind fun bt105 => ((laws_toSpotS.f k l0).bind fun t109 => ((impl_PolyThrough.f k t109).bind fun bt112 => ((laws_eqPoly.f k bt112.1 bt105.1).bind fun t116 => (if t116 = true then (laws_FnExactPolyThrough.j0 k l0 bt105.1 bt105.2 t109 bt112.1 bt112.2 (bt112.2 != bt105.2)) else (laws_FnExactPolyThrough.j0 k l0 bt105.1 bt105.2 t109 bt112.1 bt112.2 true))))))))) = some r := h
  clear h
  replace H := Option.bind_eq_some_iff.mp H
  obtain ⟨t101, A20, H⟩ := H
  replace H : (if t101 < 0 then (some true) else ((laws_toSpotS.f k l0).bind fun t102 => ((spec_PolyThrough.f k t102).bind fun bt105 => ((laws_toSpotS.f k l0).bind fun t109 => ((impl_PolyThrough.f k t109).bind fun bt112 => ((laws_eqPoly.f k bt112.1 bt105.1).bind fun t116 => (if t116 = true then (laws_FnExactPolyThrough.j0 k l0 bt105.1 bt105.2 t109 bt112.1 bt112.2 (bt112.2 != bt105.2)) else (laws_FnExactPolyThrough.j0 k l0 bt105.1 bt105.2 t109 bt112.1 bt112.2 true)))))))) = some r := H
  have A2 := Aside0.mk A20
  clear A20
  by_cases c3 : t101 < 0
  · rw [if_pos c3] at H
    have c3b0 : decide (t101 < 0) = true := decide_eq_true c3
    clear c3
    obtain rfl := Option.some.inj H
    go_enter Try.func3, Try.ntmps3
    go_wp2_with (first | ((with_reducible refine gate_callee (f := 10) rfl ?_); refine goesL_ (some 16) rfl rfl Try.func10 (by kernel_rfl) rfl #[.slice A0 l0.length c0, .int .i64 1048576] rfl (by (try simp only [List.map_toArray, List.map_cons, List.map_nil]); first | done | rfl | (simp only [List.length_drop, List.length_take]; rfl)) ?_; (with_reducible refine (laws_szSpotS.calls _ _ l0 1048576 t101 _ ?side1 ?side2 A2.out).mono ?_); (case side1 => repeat (first | exact HR0.out | (with_reducible refine Kd.C_alloc ?_ _) | (with_reducible refine Kd.C_drewN ?_ _) | (with_reducible refine Kd.C_drew ?_))); (case side2 => exact HC0.out); rintro e w' ⟨rfl, ⟨nd, rfl⟩⟩; refine ⟨_, rfl, ?_⟩))
    go_ret
    exact ⟨by first | rfl | (simp [errW_none, errW_some] <;> rfl) | (simp [*, errW_none, errW_some] <;> rfl), by repeat (first | (with_reducible first | exact HB.out | apply below_alloc | apply pw_below_drewN | apply below_drew1) | exact HB.out)⟩
  · rw [if_neg c3] at H
    have c3b0 : decide (t101 < 0) = false := decide_eq_false c3
    clear c3
    replace H := Option.bind_eq_some_iff.mp H
    obtain ⟨t102, A40, H⟩ := H
    replace H : ((spec_PolyThrough.f k t102).bind fun bt105 => ((laws_toSpotS.f k l0).bind fun t109 => ((impl_PolyThrough.f k t109).bind fun bt112 => ((laws_eqPoly.f k bt112.1 bt105.1).bind fun t116 => (if t116 = true then (laws_FnExactPolyThrough.j0 k l0 bt105.1 bt105.2 t109 bt112.1 bt112.2 (bt112.2 != bt105.2)) else (laws_FnExactPolyThrough.j0 k l0 bt105.1 bt105.2 t109 bt112.1 bt112.2 true)))))) = some r := H
    have A4 := Aside0.mk A40
    clear A40
    replace H := Option.bind_eq_some_iff.mp H
    obtain ⟨⟨t105, t106⟩, A50, H⟩ := H
    replace H : ((laws_toSpotS.f k l0).bind fun t109 => ((impl_PolyThrough.f k t109).bind fun bt112 => ((laws_eqPoly.f k bt112.1 t105).bind fun t116 => (if t116 = true then (laws_FnExactPolyThrough.j0 k l0 t105 t106 t109 bt112.1 bt112.2 (bt112.2 != t106)) else (laws_FnExactPolyThrough.j0 k l0 t105 t106 t109 bt112.1 bt112.2 true))))) = some r := H
    have A5 := Aside0.mk A50
    clear A50
    replace H := Option.bind_eq_some_iff.mp H
    obtain ⟨t109, A60, H⟩ := H
    replace H : ((impl_PolyThrough.f k t109).bind fun bt112 => ((laws_eqPoly.f k bt112.1 t105).bind fun t116 => (if t116 = true then (laws_FnExactPolyThrough.j0 k l0 t105 t106 t109 bt112.1 bt112.2 (bt112.2 != t106)) else (laws_FnExactPolyThrough.j0 k l0 t105 t106 t109 bt112.1 bt112.2 true)))) = some r := H
    have A6 := Aside0.mk A60
    clear A60
    replace H := Option.bind_eq_some_iff.mp H
    obtain ⟨⟨t112, t113⟩, A70, H⟩ := H
    replace H : ((laws_eqPoly.f k t112 t105).bind fun t116 => (if t116 = true then (laws_FnExactPolyThrough.j0 k l0 t105 t106 t109 t112 t113 (t113 != t106)) else (laws_FnExactPolyThrough.j0 k l0 t105 t106 t109 t112 t113 true))) = some r := H
    have A7 := Aside0.mk A70
    clear A70
    have HC8 := Aside0.mk H
    clear H
    go_enter Try.func3, Try.ntmps3
    go_upto_region 8 with (first | ((with_reducible refine gate_callee (f := 10) rfl ?_); refine goesL_ (some 16) rfl rfl Try.func10 (by kernel_rfl) rfl #[.slice A0 l0.length c0, .int .i64 1048576] rfl (by (try simp only [List.map_toArray, List.map_cons, List.map_nil]); first | done | rfl | (simp only [List.length_drop, List.length_take]; rfl)) ?_; (with_reducible refine (laws_szSpotS.calls _ _ l0 1048576 t101 _ ?side1 ?side2 A2.out).mono ?_); (case side1 => repeat (first | exact HR0.out | (with_reducible refine Kd.C_alloc ?_ _) | (with_reducible refine Kd.C_drewN ?_ _) | (with_reducible refine Kd.C_drew ?_))); (case side2 => exact HC0.out); rintro e w' ⟨rfl, ⟨nd, rfl⟩⟩; refine ⟨_, rfl, ?_⟩) | ((with_reducible refine gate_callee (f := 12) rfl ?_); refine goesL_ (some 21) rfl rfl Try.func12 (by kernel_rfl) rfl #[.slice A0 l0.length c0] rfl (by (try simp only [List.map_toArray, List.map_cons, List.map_nil]); first | done | rfl | (simp only [List.length_drop, List.length_take]; rfl)) ?_; (with_reducible refine (laws_toSpotS.calls k _ _ l0 t102 _ ?side1 ?side2 A4.out).mono ?_); (case side1 => repeat (first | exact HR0.out | (with_reducible refine Kd.C_alloc ?_ _) | (with_reducible refine Kd.C_drewN ?_ _) | (with_reducible refine Kd.C_drew ?_))); (case side2 => exact HC0.out); rintro e w9 ⟨v103, rfl, ho0, hb⟩; refine ⟨_, rfl, ?_⟩; have n0_ := Aside0.mk (Kd.R_lower ho0 (below_size (by repeat (first | (with_reducible first | exact HB.out | apply below_alloc | apply pw_below_drewN | apply below_drew1) | exact HB.out)))); have n1_ := Aside0.mk (below_step (by repeat (first | (with_reducible first | exact HB.out | apply below_alloc | apply pw_below_drewN | apply below_drew1) | exact HB.out)) hb); clear HB; have HO104 := n0_; have HB := n1_; clear n0_ n1_; (try clear hb); (try clear hb2); (try clear hk); (try clear hi); (try clear ho0); obtain ⟨Ao10, co10, eo10⟩ := Kd.R_slice HO104.out; subst eo10) | ((with_reducible refine gate_callee (f := 11) rfl ?_); refine goesL_ (some 22) rfl rfl Try.func11 (by kernel_rfl) rfl #[.slice Ao10 t102.length co10] rfl (by (try simp only [List.map_toArray, List.map_cons, List.map_nil]); first | done | rfl | (simp only [List.length_drop, List.length_take]; rfl)) ?_; (with_reducible refine (spec_PolyThrough.calls k _ _ t102 t105 t106 _ ?side1 ?side2 A5.out).mono ?_); (case side1 => repeat (first | exact (Kd.R_reads' HO104.out).2.2 | (with_reducible refine Kd.C_alloc ?_ _) | (with_reducible refine Kd.C_drewN ?_ _) | (with_reducible refine Kd.C_drew ?_))); (case side2 => exact (Kd.R_reads' HO104.out).2.1); rintro e w11 ⟨v107, rfl, ho0, hb⟩; refine ⟨_, rfl, ?_⟩; have n0_ := Aside0.mk (Kd.R_below (by (with_reducible repeat (first | apply Kd.R_alloc | apply Kd.R_drewN | apply Kd.R_drew)); exact HO104.out) hb); have n1_ := Aside0.mk (Kd.R_lower ho0 (below_size (by repeat (first | (with_reducible first | exact HB.out | apply below_alloc | apply pw_below_drewN | apply below_drew1) | exact HB.out)))); have n2_ := Aside0.mk (below_step (by repeat (first | (with_reducible first | exact HB.out | apply below_alloc | apply pw_below_drewN | apply below_drew1) | exact HB.out)) hb); clear HO104; clear HB; have HO104 := n0_; have HO108 := n1_; have HB := n2_; clear n0_ n1_ n2_; (try clear hb); (try clear hb2); (try clear hk); (try clear hi); (try clear ho0)) | ((with_reducible refine gate_callee (f := 12) rfl ?_); refine goesL_ (some 26) rfl rfl Try.func12 (by kernel_rfl) rfl #[.slice A0 l0.length c0] rfl (by (try simp only [List.map_toArray, List.map_cons, List.map_nil]); first | done | rfl | (simp only [List.length_drop, List.length_take]; rfl)) ?_; (with_reducible refine (laws_toSpotS.calls k _ _ l0 t109 _ ?side1 ?side2 A6.out).mono ?_); (case side1 => repeat (first | exact (Kd.C_below HR0.out HB.out) | (with_reducible refine Kd.C_alloc ?_ _) | (with_reducible refine Kd.C_drewN ?_ _) | (with_reducible refine Kd.C_drew ?_))); (case side2 => exact HC0.out); rintro e w12 ⟨v110, rfl, ho0, hb⟩; refine ⟨_, rfl, ?_⟩; have n0_ := Aside0.mk (Kd.R_elder' (by (with_reducible repeat (first | apply Kd.R_alloc | apply Kd.R_drewN | apply Kd.R_drew)); exact HO104.out) (Kd.R_base ho0) hb); have n1_ := Aside0.mk (Kd.R_below (by (with_reducible repeat (first | apply Kd.R_alloc | apply Kd.R_drewN | apply Kd.R_drew)); exact HO108.out) hb); have n2_ := Aside0.mk (Kd.R_lower (Kd.R_new' ho0 (Kd.R_lt (by (with_reducible repeat (first | apply Kd.R_alloc | apply Kd.R_drewN | apply Kd.R_drew)); exact HO104.out))) (below_size (by repeat (first | (with_reducible first | exact HB.out | apply below_alloc | apply pw_below_drewN | apply below_drew1) | exact HB.out)))); have n3_ := Aside0.mk (below_step (by repeat (first | (with_reducible first | exact HB.out | apply below_alloc | apply pw_below_drewN | apply below_drew1) | exact HB.out)) hb); clear HO104; clear HO108; clear HB; have HO104 := n0_; have HO108 := n1_; have HO111 := n2_; have HB := n3_; clear n0_ n1_ n2_ n3_; (try clear hb); (try clear hb2); (try clear hk); (try clear hi); (try clear ho0); obtain ⟨Ao13, co13, eo13⟩ := Kd.R_slice HO111.out; subst eo13) | ((with_reducible refine gate_callee (f := 13) rfl ?_); refine goesL_ (some 29) rfl rfl Try.func13 (by kernel_rfl) rfl #[.slice Ao13 t109.length co13] rfl (by (try simp only [List.map_toArray, List.map_cons, List.map_nil]); first | done | rfl | (simp only [List.length_drop, List.length_take]; rfl)) ?_; (with_reducible refine (impl_PolyThrough.calls k _ _ t109 t112 t113 _ ?side1 ?side2 A7.out).mono ?_); (case side1 => repeat (first | exact (Kd.R_reads' HO111.out).2.2 | (with_reducible refine Kd.C_alloc ?_ _) | (with_reducible refine Kd.C_drewN ?_ _) | (with_reducible refine Kd.C_drew ?_))); (case side2 => exact (Kd.R_reads' HO111.out).2.1); rintro e w14 ⟨v114, rfl, ho0, hb⟩; refine ⟨_, rfl, ?_⟩; have n0_ := Aside0.mk (Kd.R_below (by (with_reducible repeat (first | apply Kd.R_alloc | apply Kd.R_drewN | apply Kd.R_drew)); exact HO104.out) hb); have n1_ := Aside0.mk (Kd.R_elder' (by (with_reducible repeat (first | apply Kd.R_alloc | apply Kd.R_drewN | apply Kd.R_drew)); exact HO108.out) (Kd.R_base ho0) hb); have n2_ := Aside0.mk (Kd.R_below (by (with_reducible repeat (first | apply Kd.R_alloc | apply Kd.R_drewN | apply Kd.R_drew)); exact HO111.out) hb); have n3_ := Aside0.mk (Kd.R_lower (Kd.R_new' ho0 (Kd.R_lt (by (with_reducible repeat (first | apply Kd.R_alloc | apply Kd.R_drewN | apply Kd.R_drew)); exact HO108.out))) (below_size (by repeat (first | (with_reducible first | exact HB.out | apply below_alloc | apply pw_below_drewN | apply below_drew1) | exact HB.out)))); have n4_ := Aside0.mk (below_step (by repeat (first | (with_reducible first | exact HB.out | apply below_alloc | apply pw_below_drewN | apply below_drew1) | exact HB.out)) hb); clear HO104; clear HO108; clear HO111; clear HB; have HO104 := n0_; have HO108 := n1_; have HO111 := n2_; have HO115 := n3_; have HB := n4_; clear n0_ n1_ n2_ n3_ n4_; (try clear hb); (try clear hb2); (try clear hk); (try clear hi); (try clear ho0)))
    (try simp only [Act.put, List.setIfInBounds_toArray, List.set_cons_zero, List.set_cons_succ])
    go_cut [40] (fun v40 wc => ∃ (kq : Nat) (x40_7 : Bool), v40 = .bool x40_7 ∧ Aside0 (laws_FnExactPolyThrough.j0 kq l0 t105 t106 t109 t112 t113 x40_7 = some r) ∧ Aside0 (kq ≤ k) ∧ Aside0 (Kd.R (Kd.int .u16) 36 wc w.heap.size (fun k_ => some k_ ≠ (v114 : Value).ownBlock) v107 t105) ∧ Aside0 (Kd.R k67 67 wc w.heap.size (fun _ => True) (.slice Ao13 t109.length co13) t109) ∧ Aside0 (Kd.R (Kd.int .u16) 36 wc w.heap.size (fun k_ => some k_ ≠ (v107 : Value).ownBlock) v114 t112) ∧ Aside0 (Below w.heap.size w wc))
    case first =>
      have H := HC8.out
      clear HC8
      replace H := Option.bind_eq_some_iff.mp H
      obtain ⟨t116, A150, H⟩ := H
      replace H : (if t116 = true then (laws_FnExactPolyThrough.j0 k l0 t105 t106 t109 t112 t113 (t113 != t106)) else (laws_FnExactPolyThrough.j0 k l0 t105 t106 t109 t112 t113 true)) = some r := H
      have A15 := Aside0.mk A150
      clear A150
      by_cases c16 : t116 = true
      · subst c16
        have H1 : (laws_FnExactPolyThrough.j0 k l0 t105 t106 t109 t112 t113 (t113 != t106)) = some r := by rw [if_pos rfl] at H; exact H
        clear H
        have H := H1
        clear H1
        have H' := Aside0.mk H
        clear H
        obtain ⟨Ao17, co17, eo17⟩ := Kd.R_slice HO115.out
        subst eo17
        obtain ⟨Ao18, co18, eo18⟩ := Kd.R_slice HO108.out
        subst eo18
        go_wp2_with (first | ((with_reducible refine gate_callee (f := 14) rfl ?_); refine goesL_ (some 34) rfl rfl Try.func14 (by kernel_rfl) rfl #[.slice Ao17 t112.length co17, .slice Ao18 t105.length co18] rfl (by (try simp only [List.map_toArray, List.map_cons, List.map_nil]); first | done | rfl | (simp only [List.length_drop, List.length_take]; rfl)) ?_; (with_reducible refine (laws_eqPoly.calls k _ _ t112 _ _ t105 true _ ?side1 ?side2 ?side3 ?side4 A15.out).mono ?_); (case side1 => repeat (first | exact (Kd.R_reads' HO115.out).2.2 | (with_reducible refine Kd.C_alloc ?_ _) | (with_reducible refine Kd.C_drewN ?_ _) | (with_reducible refine Kd.C_drew ?_))); (case side2 => exact (Kd.R_reads' HO115.out).2.1); (case side3 => repeat (first | exact (Kd.R_reads' HO108.out).2.2 | (with_reducible refine Kd.C_alloc ?_ _) | (with_reducible refine Kd.C_drewN ?_ _) | (with_reducible refine Kd.C_drew ?_))); (case side4 => exact (Kd.R_reads' HO108.out).2.1); rintro e w' ⟨rfl, ⟨nd, rfl⟩⟩; refine ⟨_, rfl, ?_⟩))
        go_meet
        case rel => exact ⟨_, ((t113 != t106)), (by first | rfl | (simp; done) | (simp [*]; done)), H', ⟨by first | omega | exact Nat.le_refl _⟩, ⟨by (with_reducible repeat (first | apply Kd.R_alloc | apply Kd.R_drewN | apply Kd.R_drew)); exact Kd.R_mono HO108.out (fun _ hk => hk.2)⟩, ⟨by (with_reducible repeat (first | apply Kd.R_alloc | apply Kd.R_drewN | apply Kd.R_drew)); exact Kd.R_mono HO111.out (fun _ hk => trivial)⟩, ⟨by (with_reducible repeat (first | apply Kd.R_alloc | apply Kd.R_drewN | apply Kd.R_drew)); exact Kd.R_mono HO115.out (fun _ hk => hk.2)⟩, ⟨by repeat (first | (with_reducible first | exact HB.out | apply below_alloc | apply pw_below_drewN | apply below_drew1) | exact HB.out)⟩⟩
      · replace c16 := Bool.eq_false_iff.mpr c16
        subst c16
        have H1 : (laws_FnExactPolyThrough.j0 k l0 t105 t106 t109 t112 t113 true) = some r := by rw [if_neg (show ¬ (false = true) by decide)] at H; exact H
        clear H
        have H := H1
        clear H1
        have H' := Aside0.mk H
        clear H
        obtain ⟨Ao19, co19, eo19⟩ := Kd.R_slice HO115.out
        subst eo19
        obtain ⟨Ao20, co20, eo20⟩ := Kd.R_slice HO108.out
        subst eo20
        go_wp2_with (first | ((with_reducible refine gate_callee (f := 14) rfl ?_); refine goesL_ (some 34) rfl rfl Try.func14 (by kernel_rfl) rfl #[.slice Ao19 t112.length co19, .slice Ao20 t105.length co20] rfl (by (try simp only [List.map_toArray, List.map_cons, List.map_nil]); first | done | rfl | (simp only [List.length_drop, List.length_take]; rfl)) ?_; (with_reducible refine (laws_eqPoly.calls k _ _ t112 _ _ t105 false _ ?side1 ?side2 ?side3 ?side4 A15.out).mono ?_); (case side1 => repeat (first | exact (Kd.R_reads' HO115.out).2.2 | (with_reducible refine Kd.C_alloc ?_ _) | (with_reducible refine Kd.C_drewN ?_ _) | (with_reducible refine Kd.C_drew ?_))); (case side2 => exact (Kd.R_reads' HO115.out).2.1); (case side3 => repeat (first | exact (Kd.R_reads' HO108.out).2.2 | (with_reducible refine Kd.C_alloc ?_ _) | (with_reducible refine Kd.C_drewN ?_ _) | (with_reducible refine Kd.C_drew ?_))); (case side4 => exact (Kd.R_reads' HO108.out).2.1); rintro e w' ⟨rfl, ⟨nd, rfl⟩⟩; refine ⟨_, rfl, ?_⟩))
        go_meet
        case rel => exact ⟨_, (true), (by first | rfl | (simp; done) | (simp [*]; done)), H', ⟨by first | omega | exact Nat.le_refl _⟩, ⟨by (with_reducible repeat (first | apply Kd.R_alloc | apply Kd.R_drewN | apply Kd.R_drew)); exact Kd.R_mono HO108.out (fun _ hk => hk.2)⟩, ⟨by (with_reducible repeat (first | apply Kd.R_alloc | apply Kd.R_drewN | apply Kd.R_drew)); exact Kd.R_mono HO111.out (fun _ hk => trivial)⟩, ⟨by (with_reducible repeat (first | apply Kd.R_alloc | apply Kd.R_drewN | apply Kd.R_drew)); exact Kd.R_mono HO115.out (fun _ hk => hk.2)⟩, ⟨by repeat (first | (with_reducible first | exact HB.out | apply below_alloc | apply pw_below_drewN | apply below_drew1) | exact HB.out)⟩⟩
    case rest =>
      clear HC8
      try clear c1
      try clear p2
      try clear c3
      try clear c3b0
      try clear c10
      try clear c11
      try clear c12
      try clear c13
      try clear c14
      try clear c16
      obtain ⟨kq, x40_7, rfl, HA, HJ7, HO_4, HO_6, HO_7, HB⟩ := hcut
      cases kq with
      | zero => exact absurd HA.out (by simp [laws_FnExactPolyThrough.j0])
      | succ kj7 =>
        have H := HA.out
        clear HA
        simp only [laws_FnExactPolyThrough.j0] at H
        by_cases c21 : x40_7 = true
        · subst c21
          have H1 : (none) = some r := by rw [if_pos rfl] at H; exact H
          clear H
          have H := H1
          clear H1
          exact absurd H (by simp)
        · replace c21 := Bool.eq_false_iff.mpr c21
          subst c21
          have H1 : ((laws_toSpotS.f kj7 l0).bind fun t117 => ((laws_eqSpotS.f kj7 t109 t117).bind fun t120 => (if t120 = true then ((laws_markSpotS.f kj7 t109 1).bind fun bt121 => (if bt121.1 < 0 then (laws_FnExactPolyThrough.j1 kj7 l0 t105 t106 t112 true) else ((laws_eqPoly.f kj7 t112 t105).bind fun t123 => (if t123 = true then (laws_FnExactPolyThrough.j1 kj7 l0 t105 t106 t112 (t113 != t106)) else (laws_FnExactPolyThrough.j1 kj7 l0 t105 t106 t112 true))))) else (none)))) = some r := by rw [if_neg (show ¬ (false = true) by decide)] at H; exact H
          clear H
          have H := H1
          clear H1
          replace H := Option.bind_eq_some_iff.mp H
          obtain ⟨t117, A220, H⟩ := H
          replace H : ((laws_eqSpotS.f kj7 t109 t117).bind fun t120 => (if t120 = true then ((laws_markSpotS.f kj7 t109 1).bind fun bt121 => (if bt121.1 < 0 then (laws_FnExactPolyThrough.j1 kj7 l0 t105 t106 t112 true) else ((laws_eqPoly.f kj7 t112 t105).bind fun t123 => (if t123 = true then (laws_FnExactPolyThrough.j1 kj7 l0 t105 t106 t112 (t113 != t106)) else (laws_FnExactPolyThrough.j1 kj7 l0 t105 t106 t112 true))))) else (none))) = some r := H
          have A22 := Aside0.mk A220
          clear A220
          replace H := Option.bind_eq_some_iff.mp H
          obtain ⟨t120, A230, H⟩ := H
          replace H : (if t120 = true then ((laws_markSpotS.f kj7 t109 1).bind fun bt121 => (if bt121.1 < 0 then (laws_FnExactPolyThrough.j1 kj7 l0 t105 t106 t112 true) else ((laws_eqPoly.f kj7 t112 t105).bind fun t123 => (if t123 = true then (laws_FnExactPolyThrough.j1 kj7 l0 t105 t106 t112 (t113 != t106)) else (laws_FnExactPolyThrough.j1 kj7 l0 t105 t106 t112 true))))) else (none)) = some r := H
          have A23 := Aside0.mk A230
          clear A230
          by_cases c24 : t120 = true
          · subst c24
            have H1 : ((laws_markSpotS.f kj7 t109 1).bind fun bt121 => (if bt121.1 < 0 then (laws_FnExactPolyThrough.j1 kj7 l0 t105 t106 t112 true) else ((laws_eqPoly.f kj7 t112 t105).bind fun t123 => (if t123 = true then (laws_FnExactPolyThrough.j1 kj7 l0 t105 t106 t112 (t113 != t106)) else (laws_FnExactPolyThrough.j1 kj7 l0 t105 t106 t112 true))))) = some r := by rw [if_pos rfl] at H; exact H
            clear H
            have H := H1
            clear H1
            replace H := Option.bind_eq_some_iff.mp H
            obtain ⟨⟨t121, t122⟩, A250, H⟩ := H
            replace H : (if t121 < 0 then (laws_FnExactPolyThrough.j1 kj7 l0 t105 t106 t112 true) else ((laws_eqPoly.f kj7 t112 t105).bind fun t123 => (if t123 = true then (laws_FnExactPolyThrough.j1 kj7 l0 t105 t106 t112 (t113 != t106)) else (laws_FnExactPolyThrough.j1 kj7 l0 t105 t106 t112 true)))) = some r := H
            have A25 := Aside0.mk A250
            clear A250
            have HC26 := Aside0.mk H
            clear H
            go_upto_region 14 with (first | ((with_reducible refine gate_callee (f := 12) rfl ?_); refine goesL_ (some 43) rfl rfl Try.func12 (by kernel_rfl) rfl #[.slice A0 l0.length c0] rfl (by (try simp only [List.map_toArray, List.map_cons, List.map_nil]); first | done | rfl | (simp only [List.length_drop, List.length_take]; rfl)) ?_; (with_reducible refine (laws_toSpotS.calls kj7 _ _ l0 t117 _ ?side1 ?side2 A22.out).mono ?_); (case side1 => repeat (first | exact (Kd.C_below HR0.out HB.out) | (with_reducible refine Kd.C_alloc ?_ _) | (with_reducible refine Kd.C_drewN ?_ _) | (with_reducible refine Kd.C_drew ?_))); (case side2 => exact HC0.out); rintro e w27 ⟨v118, rfl, ho0, hb⟩; refine ⟨_, rfl, ?_⟩; have n0_ := Aside0.mk (Kd.R_below (by (with_reducible repeat (first | apply Kd.R_alloc | apply Kd.R_drewN | apply Kd.R_drew)); exact HO_4.out) hb); have n1_ := Aside0.mk (Kd.R_elder' (by (with_reducible repeat (first | apply Kd.R_alloc | apply Kd.R_drewN | apply Kd.R_drew)); exact HO_6.out) (Kd.R_base ho0) hb); have n2_ := Aside0.mk (Kd.R_below (by (with_reducible repeat (first | apply Kd.R_alloc | apply Kd.R_drewN | apply Kd.R_drew)); exact HO_7.out) hb); have n3_ := Aside0.mk (Kd.R_lower (Kd.R_new' ho0 (Kd.R_lt (by (with_reducible repeat (first | apply Kd.R_alloc | apply Kd.R_drewN | apply Kd.R_drew)); exact HO_6.out))) (below_size (by repeat (first | (with_reducible first | exact HB.out | apply below_alloc | apply pw_below_drewN | apply below_drew1) | exact HB.out)))); have n4_ := Aside0.mk (below_step (by repeat (first | (with_reducible first | exact HB.out | apply below_alloc | apply pw_below_drewN | apply below_drew1) | exact HB.out)) hb); clear HO_4; clear HO_6; clear HO_7; clear HB; have HO_4 := n0_; have HO_6 := n1_; have HO_7 := n2_; have HO119 := n3_; have HB := n4_; clear n0_ n1_ n2_ n3_ n4_; (try clear hb); (try clear hb2); (try clear hk); (try clear hi); (try clear ho0); obtain ⟨Ao28, co28, eo28⟩ := Kd.R_slice HO119.out; subst eo28) | ((with_reducible refine gate_callee (f := 15) rfl ?_); refine goesL_ (some 44) rfl rfl Try.func15 (by kernel_rfl) rfl #[.slice Ao13 t109.length co13, .slice Ao28 t117.length co28] rfl (by (try simp only [List.map_toArray, List.map_cons, List.map_nil]); first | done | rfl | (simp only [List.length_drop, List.length_take]; rfl)) ?_; (with_reducible refine (laws_eqSpotS.calls kj7 _ _ t109 _ _ t117 true _ ?side1 ?side2 ?side3 ?side4 A23.out).mono ?_); (case side1 => repeat (first | exact (Kd.R_reads' HO_6.out).2.2 | (with_reducible refine Kd.C_alloc ?_ _) | (with_reducible refine Kd.C_drewN ?_ _) | (with_reducible refine Kd.C_drew ?_))); (case side2 => exact (Kd.R_reads' HO_6.out).2.1); (case side3 => repeat (first | exact (Kd.R_reads' HO119.out).2.2 | (with_reducible refine Kd.C_alloc ?_ _) | (with_reducible refine Kd.C_drewN ?_ _) | (with_reducible refine Kd.C_drew ?_))); (case side4 => exact (Kd.R_reads' HO119.out).2.1); rintro e w29 ⟨rfl, hb⟩; refine ⟨_, rfl, ?_⟩; have n0_ := Aside0.mk (Kd.R_below (by (with_reducible repeat (first | apply Kd.R_alloc | apply Kd.R_drewN | apply Kd.R_drew)); exact HO_4.out) hb); have n1_ := Aside0.mk (Kd.R_below (by (with_reducible repeat (first | apply Kd.R_alloc | apply Kd.R_drewN | apply Kd.R_drew)); exact HO_6.out) hb); have n2_ := Aside0.mk (Kd.R_below (by (with_reducible repeat (first | apply Kd.R_alloc | apply Kd.R_drewN | apply Kd.R_drew)); exact HO_7.out) hb); have n3_ := Aside0.mk (Kd.R_below (by (with_reducible repeat (first | apply Kd.R_alloc | apply Kd.R_drewN | apply Kd.R_drew)); exact HO119.out) hb); have n4_ := Aside0.mk (below_step (by repeat (first | (with_reducible first | exact HB.out | apply below_alloc | apply pw_below_drewN | apply below_drew1) | exact HB.out)) hb); clear HO_4; clear HO_6; clear HO_7; clear HO119; clear HB; have HO_4 := n0_; have HO_6 := n1_; have HO_7 := n2_; have HO119 := n3_; have HB := n4_; clear n0_ n1_ n2_ n3_ n4_; (try clear hb); (try clear hb2); (try clear hk); (try clear hi)) | ((with_reducible refine gate_callee (f := 16) rfl ?_); refine goesL_ (some 48) rfl rfl Try.func16 (by kernel_rfl) rfl #[.slice Ao13 t109.length co13, .int .i64 1] rfl (by (try simp only [List.map_toArray, List.map_cons, List.map_nil]); first | done | rfl | (simp only [List.length_drop, List.length_take]; rfl)) ?_; (with_reducible refine (laws_markSpotS.calls kj7 (fun k_ => some k_ = (.slice Ao13 t109.length co13 : Value).ownBlock) (.slice Ao13 t109.length co13) t109 1 t121 t122 w _ ?side1 ?side2 A25.out).mono ?_); (case side1 => repeat (first | (with_reducible first | exact HB.out | apply below_alloc | apply pw_below_drewN | apply below_drew1) | exact HB.out)); (case side2 => exact Kd.R_tight rfl HO_6.out); rintro e w30 ⟨rfl, hy0, hb, hkp⟩; refine ⟨_, rfl, ?_⟩; have n0_ := Aside0.mk (Kd.R_mono (ok' := fun k_ => some k_ ≠ (v114 : Value).ownBlock) (Kd.R_keptB ((Kd.R_apart' HO_4.out (Kd.R_typed HO_6.out) (by decide))) hkp (fun k_ hk_ hs_ => (hk_.2) hs_)) (fun k_ hk_ => hk_.1.1)); have n1_ := Aside0.mk (Kd.R_reok rfl hy0 (fun k_ e_ => HO_6.out.1 k_ e_)); have n2_ := Aside0.mk (Kd.R_mono (ok' := fun k_ => some k_ ≠ (v107 : Value).ownBlock) (Kd.R_keptB ((Kd.R_apart' HO_7.out (Kd.R_typed HO_6.out) (by decide))) hkp (fun k_ hk_ hs_ => (hk_.2) hs_)) (fun k_ hk_ => hk_.1.1)); have n3_ := Aside0.mk (Kd.R_mono (ok' := fun k_ => some k_ ≠ (.slice Ao13 t109.length co13 : Value).ownBlock) (Kd.R_keptB (HO119.out) hkp (fun k_ hk_ hs_ => (hk_.2) hs_)) (fun k_ hk_ => hk_.1.2)); have n4_ := Aside0.mk (hb); clear HO_4; clear HO_6; clear HO_7; clear HO119; clear HB; have HO_4 := n0_; have HO_6 := n1_; have HO_7 := n2_; have HO119 := n3_; have HB := n4_; clear n0_ n1_ n2_ n3_ n4_; (try clear hb); (try clear hkp); (try clear hy0)))
            (try simp only [Act.put, List.setIfInBounds_toArray, List.set_cons_zero, List.set_cons_succ])
            go_cut [61] (fun v61 wc => ∃ (kq : Nat) (x61_25 : Bool), v61 = .bool x61_25 ∧ Aside0 (laws_FnExactPolyThrough.j1 kq l0 t105 t106 t112 x61_25 = some r) ∧ Aside0 (kq ≤ kj7) ∧ Aside0 (Kd.R (Kd.int .u16) 36 wc w.heap.size (fun k_ => some k_ ≠ (v114 : Value).ownBlock) v107 t105) ∧ Aside0 (Kd.R (Kd.int .u16) 36 wc w.heap.size (fun k_ => some k_ ≠ (v107 : Value).ownBlock) v114 t112) ∧ Aside0 (Below w.heap.size w wc))
            case first =>
              have H := HC26.out
              clear HC26
              by_cases c31 : t121 < 0
              · rw [if_pos c31] at H
                have c31b0 : decide (t121 < 0) = true := decide_eq_true c31
                clear c31
                (first | rw [c31b0] | (simp only [i64_w, i32_w]; rw [c31b0]) | skip)
                have H' := Aside0.mk H
                clear H
                go_wp2
                go_meet
                case rel => exact ⟨_, (true), (by first | rfl | (simp; done) | (simp [*]; done)), H', ⟨by have := HJ7.out; first | omega | exact Nat.le_refl _⟩, ⟨by (with_reducible repeat (first | apply Kd.R_alloc | apply Kd.R_drewN | apply Kd.R_drew)); exact HO_4.out⟩, ⟨by (with_reducible repeat (first | apply Kd.R_alloc | apply Kd.R_drewN | apply Kd.R_drew)); exact HO_7.out⟩, ⟨by repeat (first | (with_reducible first | exact HB.out | apply below_alloc | apply pw_below_drewN | apply below_drew1) | exact HB.out)⟩⟩
              · rw [if_neg c31] at H
                have c31b0 : decide (t121 < 0) = false := decide_eq_false c31
                clear c31
                (first | rw [c31b0] | (simp only [i64_w, i32_w]; rw [c31b0]) | skip)
                replace H := Option.bind_eq_some_iff.mp H
                obtain ⟨t123, A320, H⟩ := H
                replace H : (if t123 = true then (laws_FnExactPolyThrough.j1 kj7 l0 t105 t106 t112 (t113 != t106)) else (laws_FnExactPolyThrough.j1 kj7 l0 t105 t106 t112 true)) = some r := H
                have A32 := Aside0.mk A320
                clear A320
                by_cases c33 : t123 = true
                · subst c33
                  have H1 : (laws_FnExactPolyThrough.j1 kj7 l0 t105 t106 t112 (t113 != t106)) = some r := by rw [if_pos rfl] at H; exact H
                  clear H
                  have H := H1
                  clear H1
                  have H' := Aside0.mk H
                  clear H
                  obtain ⟨Ao34, co34, eo34⟩ := Kd.R_slice HO_7.out
                  subst eo34
                  obtain ⟨Ao35, co35, eo35⟩ := Kd.R_slice HO_4.out
                  subst eo35
                  go_wp2_with (first | (go_at_call 14; (with_reducible refine (laws_eqPoly.calls kj7 _ _ t112 _ _ t105 true _ ?side1 ?side2 ?side3 ?side4 A32.out).mono ?_); (case side1 => repeat (first | exact (Kd.R_reads' HO_7.out).2.2 | (with_reducible refine Kd.C_alloc ?_ _) | (with_reducible refine Kd.C_drewN ?_ _) | (with_reducible refine Kd.C_drew ?_))); (case side2 => exact (Kd.R_reads' HO_7.out).2.1); (case side3 => repeat (first | exact (Kd.R_reads' HO_4.out).2.2 | (with_reducible refine Kd.C_alloc ?_ _) | (with_reducible refine Kd.C_drewN ?_ _) | (with_reducible refine Kd.C_drew ?_))); (case side4 => exact (Kd.R_reads' HO_4.out).2.1); rintro e w' ⟨rfl, ⟨nd, rfl⟩⟩))
                  go_meet
                  case rel => exact ⟨_, ((t113 != t106)), (by first | rfl | (simp; done) | (simp [*]; done)), H', ⟨by have := HJ7.out; first | omega | exact Nat.le_refl _⟩, ⟨by (with_reducible repeat (first | apply Kd.R_alloc | apply Kd.R_drewN | apply Kd.R_drew)); exact HO_4.out⟩, ⟨by (with_reducible repeat (first | apply Kd.R_alloc | apply Kd.R_drewN | apply Kd.R_drew)); exact HO_7.out⟩, ⟨by repeat (first | (with_reducible first | exact HB.out | apply below_alloc | apply pw_below_drewN | apply below_drew1) | exact HB.out)⟩⟩
                · replace c33 := Bool.eq_false_iff.mpr c33
                  subst c33
                  have H1 : (laws_FnExactPolyThrough.j1 kj7 l0 t105 t106 t112 true) = some r := by rw [if_neg (show ¬ (false = true) by decide)] at H; exact H
                  clear H
                  have H := H1
                  clear H1
                  have H' := Aside0.mk H
                  clear H
                  obtain ⟨Ao36, co36, eo36⟩ := Kd.R_slice HO_7.out
                  subst eo36
                  obtain ⟨Ao37, co37, eo37⟩ := Kd.R_slice HO_4.out
                  subst eo37
                  go_wp2_with (first | (go_at_call 14; (with_reducible refine (laws_eqPoly.calls kj7 _ _ t112 _ _ t105 false _ ?side1 ?side2 ?side3 ?side4 A32.out).mono ?_); (case side1 => repeat (first | exact (Kd.R_reads' HO_7.out).2.2 | (with_reducible refine Kd.C_alloc ?_ _) | (with_reducible refine Kd.C_drewN ?_ _) | (with_reducible refine Kd.C_drew ?_))); (case side2 => exact (Kd.R_reads' HO_7.out).2.1); (case side3 => repeat (first | exact (Kd.R_reads' HO_4.out).2.2 | (with_reducible refine Kd.C_alloc ?_ _) | (with_reducible refine Kd.C_drewN ?_ _) | (with_reducible refine Kd.C_drew ?_))); (case side4 => exact (Kd.R_reads' HO_4.out).2.1); rintro e w' ⟨rfl, ⟨nd, rfl⟩⟩))
                  go_meet
                  case rel => exact ⟨_, (true), (by first | rfl | (simp; done) | (simp [*]; done)), H', ⟨by have := HJ7.out; first | omega | exact Nat.le_refl _⟩, ⟨by (with_reducible repeat (first | apply Kd.R_alloc | apply Kd.R_drewN | apply Kd.R_drew)); exact HO_4.out⟩, ⟨by (with_reducible repeat (first | apply Kd.R_alloc | apply Kd.R_drewN | apply Kd.R_drew)); exact HO_7.out⟩, ⟨by repeat (first | (with_reducible first | exact HB.out | apply below_alloc | apply pw_below_drewN | apply below_drew1) | exact HB.out)⟩⟩
            case rest =>
              clear HC26
              try clear c1
              try clear c2
              try clear p2
              try clear c3
              try clear c3b0
              try clear c10
              try clear c11
              try clear c12
              try clear c13
              try clear c14
              try clear c15
              try clear c16
              try clear c21
              try clear c24
              try clear c31
              try clear c31b0
              try clear c33
              try clear p2
              obtain ⟨kq, x61_25, rfl, HA, HJ25, HO_4, HO_7, HB⟩ := hcut
              cases kq with
              | zero => exact absurd HA.out (by simp [laws_FnExactPolyThrough.j1])
              | succ kj25 =>
                have H := HA.out
                clear HA
                simp only [laws_FnExactPolyThrough.j1] at H
                by_cases c38 : x61_25 = true
                · subst c38
                  have H1 : (none) = some r := by rw [if_pos rfl] at H; exact H
                  clear H
                  have H := H1
                  clear H1
                  exact absurd H (by simp)
                · replace c38 := Bool.eq_false_iff.mpr c38
                  subst c38
                  have H1 : ((laws_markPoly.f kj25 t112 1).bind fun bt124 => ((laws_heldPoly.f kj25 bt124.2 1).bind fun t126 => (if t126 < 0 then (none) else (if t126 = bt124.1 then ((laws_toSpotS.f kj25 l0).bind fun t127 => ((impl_PolyThrough.f kj25 t127).bind fun bt130 => ((laws_eqPoly.f kj25 bt130.1 t105).bind fun t134 => (if t134 = true then (laws_FnExactPolyThrough.j2 kj25 bt124.2 bt124.1 (bt130.2 != t106)) else (laws_FnExactPolyThrough.j2 kj25 bt124.2 bt124.1 true))))) else (none))))) = some r := by rw [if_neg (show ¬ (false = true) by decide)] at H; exact H
                  clear H
                  have H := H1
                  clear H1
                  replace H := Option.bind_eq_some_iff.mp H
                  obtain ⟨⟨t124, t125⟩, A390, H⟩ := H
                  replace H : ((laws_heldPoly.f kj25 t125 1).bind fun t126 => (if t126 < 0 then (none) else (if t126 = t124 then ((laws_toSpotS.f kj25 l0).bind fun t127 => ((impl_PolyThrough.f kj25 t127).bind fun bt130 => ((laws_eqPoly.f kj25 bt130.1 t105).bind fun t134 => (if t134 = true then (laws_FnExactPolyThrough.j2 kj25 t125 t124 (bt130.2 != t106)) else (laws_FnExactPolyThrough.j2 kj25 t125 t124 true))))) else (none)))) = some r := H
                  have A39 := Aside0.mk A390
                  clear A390
                  replace H := Option.bind_eq_some_iff.mp H
                  obtain ⟨t126, A400, H⟩ := H
                  replace H : (if t126 < 0 then (none) else (if t126 = t124 then ((laws_toSpotS.f kj25 l0).bind fun t127 => ((impl_PolyThrough.f kj25 t127).bind fun bt130 => ((laws_eqPoly.f kj25 bt130.1 t105).bind fun t134 => (if t134 = true then (laws_FnExactPolyThrough.j2 kj25 t125 t124 (bt130.2 != t106)) else (laws_FnExactPolyThrough.j2 kj25 t125 t124 true))))) else (none))) = some r := H
                  have A40 := Aside0.mk A400
                  clear A400
                  by_cases c41 : t126 < 0
                  · rw [if_pos c41] at H
                    exact absurd H (by simp)
                  · rw [if_neg c41] at H
                    have c41b0 : decide (t126 < 0) = false := decide_eq_false c41
                    clear c41
                    by_cases c42 : t126 = t124
                    · rw [if_pos c42] at H
                      have c42b0 : (t126 == t124) = true := beq_iff_eq.mpr c42
                      have c42b1 : (t126 != t124) = false := bne_eq_false_iff_eq.mpr c42
                      clear c42
                      replace H := Option.bind_eq_some_iff.mp H
                      obtain ⟨t127, A430, H⟩ := H
                      replace H : ((impl_PolyThrough.f kj25 t127).bind fun bt130 => ((laws_eqPoly.f kj25 bt130.1 t105).bind fun t134 => (if t134 = true then (laws_FnExactPolyThrough.j2 kj25 t125 t124 (bt130.2 != t106)) else (laws_FnExactPolyThrough.j2 kj25 t125 t124 true)))) = some r := H
                      have A43 := Aside0.mk A430
                      clear A430
                      replace H := Option.bind_eq_some_iff.mp H
                      obtain ⟨⟨t130, t131⟩, A440, H⟩ := H
                      replace H : ((laws_eqPoly.f kj25 t130 t105).bind fun t134 => (if t134 = true then (laws_FnExactPolyThrough.j2 kj25 t125 t124 (t131 != t106)) else (laws_FnExactPolyThrough.j2 kj25 t125 t124 true))) = some r := H
                      have A44 := Aside0.mk A440
                      clear A440
                      have HC45 := Aside0.mk H
                      clear H
                      obtain ⟨Ao46, co46, eo46⟩ := Kd.R_slice HO_7.out
                      subst eo46
                      go_upto_region 25 with (first | ((with_reducible refine gate_callee (f := 17) rfl ?_); refine goesL_ (some 64) rfl rfl Try.func17 (by kernel_rfl) rfl #[.slice Ao46 t112.length co46, .int .i64 1] rfl (by (try simp only [List.map_toArray, List.map_cons, List.map_nil]); first | done | rfl | (simp only [List.length_drop, List.length_take]; rfl)) ?_; (with_reducible refine (laws_markPoly.calls kj25 (fun k_ => some k_ = (.slice Ao46 t112.length co46 : Value).ownBlock) (.slice Ao46 t112.length co46) t112 1 t124 t125 w _ ?side1 ?side2 A39.out).mono ?_); (case side1 => repeat (first | (with_reducible first | exact HB.out | apply below_alloc | apply pw_below_drewN | apply below_drew1) | exact HB.out)); (case side2 => exact Kd.R_tight rfl HO_7.out); rintro e w47 ⟨rfl, hy0, hb, hkp⟩; refine ⟨_, rfl, ?_⟩; have n0_ := Aside0.mk (Kd.R_mono (ok' := fun k_ => some k_ ≠ (.slice Ao46 t112.length co46 : Value).ownBlock) (Kd.R_keptB (HO_4.out) hkp (fun k_ hk_ hs_ => (hk_) hs_)) (fun k_ hk_ => hk_.1)); have n1_ := Aside0.mk (Kd.R_reok rfl hy0 (fun k_ e_ => HO_7.out.1 k_ e_)); have n2_ := Aside0.mk (hb); clear HO_4; clear HO_7; clear HB; have HO_4 := n0_; have HO_7 := n1_; have HB := n2_; clear n0_ n1_ n2_; (try clear hb); (try clear hkp); (try clear hy0)) | ((with_reducible refine gate_callee (f := 18) rfl ?_); refine goesL_ (some 67) rfl rfl Try.func18 (by kernel_rfl) rfl #[.slice Ao46 t125.length co46, .int .i64 1] rfl (by (try simp only [List.map_toArray, List.map_cons, List.map_nil]); first | done | (rw [show t125.length = t112.length from (Kd.R_reads' HO_7.out).1.symm] <;> rfl) | rfl | (simp only [List.length_drop, List.length_take]; rfl)) ?_; (with_reducible refine (laws_heldPoly.calls kj25 _ _ t125 1 t126 _ ?side1 ?side2 A40.out).mono ?_); (case side1 => repeat (first | exact (Kd.R_reads' HO_7.out).2.2 | (with_reducible refine Kd.C_alloc ?_ _) | (with_reducible refine Kd.C_drewN ?_ _) | (with_reducible refine Kd.C_drew ?_))); (case side2 => rw [show t125.length = t112.length from (Kd.R_reads' HO_7.out).1.symm]; exact (Kd.R_reads' HO_7.out).2.1); rintro e w' ⟨rfl, ⟨nd, rfl⟩⟩; refine ⟨_, rfl, ?_⟩) | ((with_reducible refine gate_callee (f := 12) rfl ?_); refine goesL_ (some 75) rfl rfl Try.func12 (by kernel_rfl) rfl #[.slice A0 l0.length c0] rfl (by (try simp only [List.map_toArray, List.map_cons, List.map_nil]); first | done | rfl | (simp only [List.length_drop, List.length_take]; rfl)) ?_; (with_reducible refine (laws_toSpotS.calls kj25 _ _ l0 t127 _ ?side1 ?side2 A43.out).mono ?_); (case side1 => repeat (first | exact (Kd.C_below HR0.out (by repeat (first | (with_reducible first | exact HB.out | apply below_alloc | apply pw_below_drewN | apply below_drew1) | exact HB.out))) | (with_reducible refine Kd.C_alloc ?_ _) | (with_reducible refine Kd.C_drewN ?_ _) | (with_reducible refine Kd.C_drew ?_))); (case side2 => exact HC0.out); rintro e w48 ⟨v128, rfl, ho0, hb⟩; refine ⟨_, rfl, ?_⟩; have n0_ := Aside0.mk (Kd.R_below (by (with_reducible repeat (first | apply Kd.R_alloc | apply Kd.R_drewN | apply Kd.R_drew)); exact HO_4.out) hb); have n1_ := Aside0.mk (Kd.R_below (by (with_reducible repeat (first | apply Kd.R_alloc | apply Kd.R_drewN | apply Kd.R_drew)); exact HO_7.out) hb); have n2_ := Aside0.mk (Kd.R_lower ho0 (below_size (by repeat (first | (with_reducible first | exact HB.out | apply below_alloc | apply pw_below_drewN | apply below_drew1) | exact HB.out)))); have n3_ := Aside0.mk (below_step (by repeat (first | (with_reducible first | exact HB.out | apply below_alloc | apply pw_below_drewN | apply below_drew1) | exact HB.out)) hb); clear HO_4; clear HO_7; clear HB; have HO_4 := n0_; have HO_7 := n1_; have HO129 := n2_; have HB := n3_; clear n0_ n1_ n2_ n3_; (try clear hb); (try clear hb2); (try clear hk); (try clear hi); (try clear ho0); obtain ⟨Ao49, co49, eo49⟩ := Kd.R_slice HO129.out; subst eo49) | ((with_reducible refine gate_callee (f := 13) rfl ?_); refine goesL_ (some 76) rfl rfl Try.func13 (by kernel_rfl) rfl #[.slice Ao49 t127.length co49] rfl (by (try simp only [List.map_toArray, List.map_cons, List.map_nil]); first | done | rfl | (simp only [List.length_drop, List.length_take]; rfl)) ?_; (with_reducible refine (impl_PolyThrough.calls kj25 _ _ t127 t130 t131 _ ?side1 ?side2 A44.out).mono ?_); (case side1 => repeat (first | exact (Kd.R_reads' HO129.out).2.2 | (with_reducible refine Kd.C_alloc ?_ _) | (with_reducible refine Kd.C_drewN ?_ _) | (with_reducible refine Kd.C_drew ?_))); (case side2 => exact (Kd.R_reads' HO129.out).2.1); rintro e w50 ⟨v132, rfl, ho0, hb⟩; refine ⟨_, rfl, ?_⟩; have n0_ := Aside0.mk (Kd.R_elder' (by (with_reducible repeat (first | apply Kd.R_alloc | apply Kd.R_drewN | apply Kd.R_drew)); exact HO_4.out) (Kd.R_base ho0) hb); have n1_ := Aside0.mk (Kd.R_elder' (by (with_reducible repeat (first | apply Kd.R_alloc | apply Kd.R_drewN | apply Kd.R_drew)); exact HO_7.out) (Kd.R_base ho0) hb); have n2_ := Aside0.mk (Kd.R_below (by (with_reducible repeat (first | apply Kd.R_alloc | apply Kd.R_drewN | apply Kd.R_drew)); exact HO129.out) hb); have n3_ := Aside0.mk (Kd.R_lower (Kd.R_new' (Kd.R_new' ho0 (Kd.R_lt (by (with_reducible repeat (first | apply Kd.R_alloc | apply Kd.R_drewN | apply Kd.R_drew)); exact HO_4.out))) (Kd.R_lt (by (with_reducible repeat (first | apply Kd.R_alloc | apply Kd.R_drewN | apply Kd.R_drew)); exact HO_7.out))) (below_size (by repeat (first | (with_reducible first | exact HB.out | apply below_alloc | apply pw_below_drewN | apply below_drew1) | exact HB.out)))); have n4_ := Aside0.mk (below_step (by repeat (first | (with_reducible first | exact HB.out | apply below_alloc | apply pw_below_drewN | apply below_drew1) | exact HB.out)) hb); clear HO_4; clear HO_7; clear HO129; clear HB; have HO_4 := n0_; have HO_7 := n1_; have HO129 := n2_; have HO133 := n3_; have HB := n4_; clear n0_ n1_ n2_ n3_ n4_; (try clear hb); (try clear hb2); (try clear hk); (try clear hi); (try clear ho0)))
                      (try simp only [Act.put, List.setIfInBounds_toArray, List.set_cons_zero, List.set_cons_succ])
                      go_cut [87] (fun v87 wc => ∃ (kq : Nat) (x87_44 : Bool), v87 = .bool x87_44 ∧ Aside0 (laws_FnExactPolyThrough.j2 kq t125 t124 x87_44 = some r) ∧ Aside0 (kq ≤ kj25) ∧ Aside0 (Kd.R (Kd.int .u16) 36 wc w.heap.size (fun _ => True) (.slice Ao46 t112.length co46) t125) ∧ Aside0 (Below w.heap.size w wc))
                      case first =>
                        have H := HC45.out
                        clear HC45
                        replace H := Option.bind_eq_some_iff.mp H
                        obtain ⟨t134, A510, H⟩ := H
                        replace H : (if t134 = true then (laws_FnExactPolyThrough.j2 kj25 t125 t124 (t131 != t106)) else (laws_FnExactPolyThrough.j2 kj25 t125 t124 true)) = some r := H
                        have A51 := Aside0.mk A510
                        clear A510
                        by_cases c52 : t134 = true
                        · subst c52
                          have H1 : (laws_FnExactPolyThrough.j2 kj25 t125 t124 (t131 != t106)) = some r := by rw [if_pos rfl] at H; exact H
                          clear H
                          have H := H1
                          clear H1
                          have H' := Aside0.mk H
                          clear H
                          obtain ⟨Ao53, co53, eo53⟩ := Kd.R_slice HO133.out
                          subst eo53
                          obtain ⟨Ao54, co54, eo54⟩ := Kd.R_slice HO_4.out
                          subst eo54
                          go_wp2_with (first | ((with_reducible refine gate_callee (f := 14) rfl ?_); refine goesL_ (some 81) rfl rfl Try.func14 (by kernel_rfl) rfl #[.slice Ao53 t130.length co53, .slice Ao54 t105.length co54] rfl (by (try simp only [List.map_toArray, List.map_cons, List.map_nil]); first | done | rfl | (simp only [List.length_drop, List.length_take]; rfl)) ?_; (with_reducible refine (laws_eqPoly.calls kj25 _ _ t130 _ _ t105 true _ ?side1 ?side2 ?side3 ?side4 A51.out).mono ?_); (case side1 => repeat (first | exact (Kd.R_reads' HO133.out).2.2 | (with_reducible refine Kd.C_alloc ?_ _) | (with_reducible refine Kd.C_drewN ?_ _) | (with_reducible refine Kd.C_drew ?_))); (case side2 => exact (Kd.R_reads' HO133.out).2.1); (case side3 => repeat (first | exact (Kd.R_reads' HO_4.out).2.2 | (with_reducible refine Kd.C_alloc ?_ _) | (with_reducible refine Kd.C_drewN ?_ _) | (with_reducible refine Kd.C_drew ?_))); (case side4 => exact (Kd.R_reads' HO_4.out).2.1); rintro e w' ⟨rfl, ⟨nd, rfl⟩⟩; refine ⟨_, rfl, ?_⟩))
                          go_meet
                          case rel => exact ⟨_, ((t131 != t106)), (by first | rfl | (simp; done) | (simp [*]; done)), H', ⟨by have := HJ7.out; have := HJ25.out; first | omega | exact Nat.le_refl _⟩, ⟨by (with_reducible repeat (first | apply Kd.R_alloc | apply Kd.R_drewN | apply Kd.R_drew)); exact Kd.R_mono HO_7.out (fun _ hk => trivial)⟩, ⟨by repeat (first | (with_reducible first | exact HB.out | apply below_alloc | apply pw_below_drewN | apply below_drew1) | exact HB.out)⟩⟩
                        · replace c52 := Bool.eq_false_iff.mpr c52
                          subst c52
                          have H1 : (laws_FnExactPolyThrough.j2 kj25 t125 t124 true) = some r := by rw [if_neg (show ¬ (false = true) by decide)] at H; exact H
                          clear H
                          have H := H1
                          clear H1
                          have H' := Aside0.mk H
                          clear H
                          obtain ⟨Ao55, co55, eo55⟩ := Kd.R_slice HO133.out
                          subst eo55
                          obtain ⟨Ao56, co56, eo56⟩ := Kd.R_slice HO_4.out
                          subst eo56
                          go_wp2_with (first | ((with_reducible refine gate_callee (f := 14) rfl ?_); refine goesL_ (some 81) rfl rfl Try.func14 (by kernel_rfl) rfl #[.slice Ao55 t130.length co55, .slice Ao56 t105.length co56] rfl (by (try simp only [List.map_toArray, List.map_cons, List.map_nil]); first | done | rfl | (simp only [List.length_drop, List.length_take]; rfl)) ?_; (with_reducible refine (laws_eqPoly.calls kj25 _ _ t130 _ _ t105 false _ ?side1 ?side2 ?side3 ?side4 A51.out).mono ?_); (case side1 => repeat (first | exact (Kd.R_reads' HO133.out).2.2 | (with_reducible refine Kd.C_alloc ?_ _) | (with_reducible refine Kd.C_drewN ?_ _) | (with_reducible refine Kd.C_drew ?_))); (case side2 => exact (Kd.R_reads' HO133.out).2.1); (case side3 => repeat (first | exact (Kd.R_reads' HO_4.out).2.2 | (with_reducible refine Kd.C_alloc ?_ _) | (with_reducible refine Kd.C_drewN ?_ _) | (with_reducible refine Kd.C_drew ?_))); (case side4 => exact (Kd.R_reads' HO_4.out).2.1); rintro e w' ⟨rfl, ⟨nd, rfl⟩⟩; refine ⟨_, rfl, ?_⟩))
                          go_meet
                          case rel => exact ⟨_, (true), (by first | rfl | (simp; done) | (simp [*]; done)), H', ⟨by have := HJ7.out; have := HJ25.out; first | omega | exact Nat.le_refl _⟩, ⟨by (with_reducible repeat (first | apply Kd.R_alloc | apply Kd.R_drewN | apply Kd.R_drew)); exact Kd.R_mono HO_7.out (fun _ hk => trivial)⟩, ⟨by repeat (first | (with_reducible first | exact HB.out | apply below_alloc | apply pw_below_drewN | apply below_drew1) | exact HB.out)⟩⟩
                      case rest =>
                        clear HC45
                        try clear c1
                        try clear c2
                        try clear p2
                        try clear c3
                        try clear c3b0
                        try clear c4
                        try clear c5
                        try clear c10
                        try clear c11
                        try clear c12
                        try clear c13
                        try clear c14
                        try clear c15
                        try clear c16
                        try clear c17
                        try clear c18
                        try clear c21
                        try clear c24
                        try clear c31
                        try clear c31b0
                        try clear c33
                        try clear c38
                        try clear c41
                        try clear c41b0
                        try clear c42
                        try clear c42b0
                        try clear c42b1
                        try clear c52
                        try clear p2
                        obtain ⟨kq, x87_44, rfl, HA, HJ44, HO_7, HB⟩ := hcut
                        have hl7_44 := (Kd.R_reads' HO_7.out).1
                        rw [hl7_44] at HO_7
                        (try simp only [hl7_44])
                        cases kq with
                        | zero => exact absurd HA.out (by simp [laws_FnExactPolyThrough.j2])
                        | succ kj44 =>
                          have H := HA.out
                          clear HA
                          simp only [laws_FnExactPolyThrough.j2] at H
                          by_cases c57 : x87_44 = true
                          · subst c57
                            have H1 : (none) = some r := by rw [if_pos rfl] at H; exact H
                            clear H
                            have H := H1
                            clear H1
                            exact absurd H (by simp)
                          · replace c57 := Bool.eq_false_iff.mpr c57
                            subst c57
                            have H1 : ((laws_heldPoly.f kj44 t125 1).bind fun t135 => (if t135 < 0 then (none) else (if t135 = t124 then (some true) else (none)))) = some r := by rw [if_neg (show ¬ (false = true) by decide)] at H; exact H
                            clear H
                            have H := H1
                            clear H1
                            replace H := Option.bind_eq_some_iff.mp H
                            obtain ⟨t135, A580, H⟩ := H
                            replace H : (if t135 < 0 then (none) else (if t135 = t124 then (some true) else (none))) = some r := H
                            have A58 := Aside0.mk A580
                            clear A580
                            by_cases c59 : t135 < 0
                            · rw [if_pos c59] at H
                              exact absurd H (by simp)
                            · rw [if_neg c59] at H
                              have c59b0 : decide (t135 < 0) = false := decide_eq_false c59
                              clear c59
                              by_cases c60 : t135 = t124
                              · rw [if_pos c60] at H
                                have c60b0 : (t135 == t124) = true := beq_iff_eq.mpr c60
                                have c60b1 : (t135 != t124) = false := bne_eq_false_iff_eq.mpr c60
                                clear c60
                                obtain rfl := Option.some.inj H
                                go_wp2_with (first | ((with_reducible refine gate_callee (f := 18) rfl ?_); refine goesL_ (some 90) rfl rfl Try.func18 (by kernel_rfl) rfl #[.slice Ao46 t125.length co46, .int .i64 1] rfl (by (try simp only [List.map_toArray, List.map_cons, List.map_nil]); first | done | rfl | (simp only [List.length_drop, List.length_take]; rfl)) ?_; (with_reducible refine (laws_heldPoly.calls kj44 _ _ t125 1 t135 _ ?side1 ?side2 A58.out).mono ?_); (case side1 => repeat (first | exact (Kd.R_reads' HO_7.out).2.2 | (with_reducible refine Kd.C_alloc ?_ _) | (with_reducible refine Kd.C_drewN ?_ _) | (with_reducible refine Kd.C_drew ?_))); (case side2 => exact (Kd.R_reads' HO_7.out).2.1); rintro e w' ⟨rfl, ⟨nd, rfl⟩⟩; refine ⟨_, rfl, ?_⟩))
                                go_ret
                                exact ⟨by first | rfl | (simp [errW_none, errW_some] <;> rfl) | (simp [*, errW_none, errW_some] <;> rfl), by repeat (first | (with_reducible first | exact HB.out | apply below_alloc | apply pw_below_drewN | apply below_drew1) | exact HB.out)⟩
                              · rw [if_neg c60] at H
                                exact absurd H (by simp)
                    · rw [if_neg c42] at H
                      exact absurd H (by simp)
          · replace c24 := Bool.eq_false_iff.mpr c24
            subst c24
            have H1 : (none) = some r := by rw [if_neg (show ¬ (false = true) by decide)] at H; exact H
            clear H
            have H := H1
            clear H1
            exact absurd H (by simp)
def laws_FnExactPolyThrough.Pure : Prop := ∀ (l0 : List (S107)), l0.length ≤ maxLen → (∀ x ∈ l0, (Lit.int .u16 x.f0).wf = true ∧ (Lit.int .u16 x.f1).wf = true) → ∃ k, laws_FnExactPolyThrough.f k l0 = some true
end Go.Proofs.Ytadfobooofkelaa.X

namespace Go.Proofs.Ytadfobooofkelaa.Nim
set_option linter.unusedVariables false
set_option linter.unusedSimpArgs false
inductive F : Nat → Type
  | bit : Bool → F 0
  | pair {k : Nat} : F k → F k → F (k + 1)
  deriving DecidableEq
def fadd : {k : Nat} → F k → F k → F k
  | _, .bit a, .bit b => .bit (xor a b)
  | _, .pair a1 a0, .pair b1 b0 => .pair (fadd a1 b1) (fadd a0 b0)
def fzero : (k : Nat) → F k
  | 0 => .bit false
  | k + 1 => .pair (fzero k) (fzero k)
def fone : (k : Nat) → F k
  | 0 => .bit true
  | k + 1 => .pair (fzero k) (fone k)
def fh : (k : Nat) → F k
  | 0 => .bit true
  | k + 1 => .pair (fh k) (fzero k)
def fmul : {k : Nat} → F k → F k → F k
  | _, .bit a, .bit b => .bit (and a b)
  | _, .pair (k := k) a1 a0, .pair b1 b0 => .pair (fadd (fadd (fmul a1 b1) (fmul a1 b0)) (fmul a0 b1)) (fadd (fmul a0 b0) (fmul (fmul a1 b1) (fh k)))
instance (k : Nat) : Add (F k) := ⟨fadd⟩
instance (k : Nat) : Mul (F k) := ⟨fmul⟩
instance (k : Nat) : OfNat (F k) 0 := ⟨fzero k⟩
instance (k : Nat) : OfNat (F k) 1 := ⟨fone k⟩
theorem add_bit (a b : Bool) : F.bit a + F.bit b = F.bit (xor a b) := rfl
theorem mul_bit (a b : Bool) : F.bit a * F.bit b = F.bit (and a b) := rfl
theorem add_mk {k : Nat} (a1 a0 b1 b0 : F k) : F.pair a1 a0 + F.pair b1 b0 = F.pair (a1 + b1) (a0 + b0) := rfl
theorem mul_mk {k : Nat} (a1 a0 b1 b0 : F k) : F.pair a1 a0 * F.pair b1 b0 = F.pair (a1 * b1 + a1 * b0 + a0 * b1) (a0 * b0 + a1 * b1 * fh k) := rfl
theorem zero_bit : (0 : F 0) = .bit false := rfl
theorem one_bit : (1 : F 0) = .bit true := rfl
theorem zero_mk {k : Nat} : (0 : F (k + 1)) = .pair 0 0 := rfl
theorem one_mk {k : Nat} : (1 : F (k + 1)) = .pair 0 1 := rfl
theorem fadd_comm : ∀ {k : Nat} (a b : F k), a + b = b + a
  | _, .bit a, .bit b => by rw [add_bit, add_bit, Bool.xor_comm]
  | _, .pair a1 a0, .pair b1 b0 => by rw [add_mk, add_mk, fadd_comm a1, fadd_comm a0]
theorem fadd_assoc : ∀ {k : Nat} (a b c : F k), a + b + c = a + (b + c)
  | _, .bit a, .bit b, .bit c => by simp only [add_bit, Bool.xor_assoc]
  | _, .pair a1 a0, .pair b1 b0, .pair c1 c0 => by rw [add_mk, add_mk, add_mk, add_mk, fadd_assoc a1, fadd_assoc a0]
theorem fadd_self : ∀ {k : Nat} (a : F k), a + a = 0
  | _, .bit a => by rw [add_bit, Bool.xor_self]; rfl
  | _, .pair a1 a0 => by rw [add_mk, fadd_self a1, fadd_self a0]; rfl
theorem fzero_add : ∀ {k : Nat} (a : F k), 0 + a = a
  | _, .bit a => by rw [zero_bit, add_bit, Bool.false_xor]
  | _, .pair a1 a0 => by rw [zero_mk, add_mk, fzero_add a1, fzero_add a0]
theorem fadd_zero {k : Nat} (a : F k) : a + 0 = a := by rw [fadd_comm, fzero_add]
theorem fadd_left_comm {k : Nat} (a b c : F k) : a + (b + c) = b + (a + c) := by rw [← fadd_assoc, fadd_comm a, fadd_assoc]
theorem fadd_cancel {k : Nat} (a b : F k) : a + (a + b) = b := by rw [← fadd_assoc, fadd_self, fzero_add]
theorem feq_of_add {k : Nat} {a b : F k} (h : a + b = 0) : a = b := by
  have : a + b + b = b := by rw [h, fzero_add]
  rwa [fadd_assoc, fadd_self, fadd_zero] at this
theorem fzero_mul : ∀ {k : Nat} (a : F k), 0 * a = 0
  | _, .bit a => by rw [zero_bit, mul_bit, Bool.false_and]
  | _, .pair a1 a0 => by rw [zero_mk, mul_mk]; simp only [fzero_mul, fzero_add]
structure Laws (k : Nat) : Prop where
  comm : ∀ a b : F k, a * b = b * a
  dist : ∀ a b c : F k, a * (b + c) = a * b + a * c
  assoc : ∀ a b c : F k, a * b * c = a * (b * c)
  one : ∀ a : F k, 1 * a = a
theorem laws : ∀ k : Nat, Laws k
  | 0 => by
    refine ⟨?_, ?_, ?_, ?_⟩
    · rintro ⟨a⟩ ⟨b⟩; rw [mul_bit, mul_bit, Bool.and_comm]
    · rintro ⟨a⟩ ⟨b⟩ ⟨c⟩; simp only [add_bit, mul_bit, Bool.and_xor_distrib_left]
    · rintro ⟨a⟩ ⟨b⟩ ⟨c⟩; simp only [mul_bit, Bool.and_assoc]
    · rintro ⟨a⟩; rw [one_bit, mul_bit, Bool.true_and]
  | k + 1 => by
    have L := laws k
    have lcomm : ∀ a b c : F k, a * (b * c) = b * (a * c) := fun a b c => by rw [← L.assoc, L.comm a b, L.assoc]
    have distr : ∀ a b c : F k, (b + c) * a = b * a + c * a := fun a b c => by rw [L.comm, L.dist, L.comm a b, L.comm a c]
    refine ⟨?_, ?_, ?_, ?_⟩
    · intro a b
      cases a with | pair a1 a0 =>
      cases b with | pair b1 b0 =>
      rw [mul_mk, mul_mk, L.comm b1 a1, L.comm b1 a0, L.comm b0 a1, L.comm b0 a0, fadd_assoc, fadd_comm (a1 * b0), ← fadd_assoc]
    · rintro ⟨a1, a0⟩ ⟨b1, b0⟩ ⟨c1, c0⟩
      simp only [mul_mk, add_mk, L.dist, distr]
      congr 1 <;> simp only [fadd_assoc, fadd_comm, fadd_left_comm]
    · rintro ⟨a1, a0⟩ ⟨b1, b0⟩ ⟨c1, c0⟩
      simp only [mul_mk, L.dist, distr, L.assoc]
      have e1 : ∀ x : F k, x * fh k = fh k * x := fun x => L.comm _ _
      congr 1
      · simp only [L.comm, lcomm, fadd_assoc, fadd_comm, fadd_left_comm]
      · simp only [L.comm, lcomm, fadd_assoc, fadd_comm, fadd_left_comm]
    · rintro ⟨a1, a0⟩
      rw [one_mk, mul_mk]
      simp only [fzero_mul, fzero_add, L.one, fadd_zero]
theorem fmul_comm {k : Nat} (a b : F k) : a * b = b * a := (laws k).comm a b
theorem fmul_assoc {k : Nat} (a b c : F k) : a * b * c = a * (b * c) := (laws k).assoc a b c
theorem fmul_left_comm {k : Nat} (a b c : F k) : a * (b * c) = b * (a * c) := by rw [← fmul_assoc, fmul_comm a b, fmul_assoc]
theorem fmul_add {k : Nat} (a b c : F k) : a * (b + c) = a * b + a * c := (laws k).dist a b c
theorem fadd_mul {k : Nat} (a b c : F k) : (a + b) * c = a * c + b * c := by rw [fmul_comm, fmul_add, fmul_comm c a, fmul_comm c b]
theorem fone_mul {k : Nat} (a : F k) : 1 * a = a := (laws k).one a
theorem fmul_one {k : Nat} (a : F k) : a * 1 = a := by rw [fmul_comm, fone_mul]
theorem fmul_zero {k : Nat} (a : F k) : a * 0 = 0 := by rw [fmul_comm, fzero_mul]
theorem fsq_add {k : Nat} (a b : F k) : (a + b) * (a + b) = a * a + b * b := by
  rw [fmul_add, fadd_mul, fadd_mul, fmul_comm b a, fadd_assoc, fadd_cancel]
def ftop : {k : Nat} → F k → Bool
  | _, .bit a => a
  | _, .pair a1 _ => ftop a1
theorem ftop_h : ∀ k, ftop (fh k) = true
  | 0 => rfl
  | k + 1 => ftop_h k
theorem ftop_sq : ∀ {k : Nat} (t : F k), ftop (t * t + t) = false
  | _, .bit t => by cases t <;> rfl
  | _, .pair t1 t0 => by
    rw [mul_mk, add_mk]
    show ftop (t1 * t1 + t1 * t0 + t0 * t1 + t1) = false
    rw [fmul_comm t0 t1, fadd_assoc (t1 * t1), fadd_self, fadd_zero]
    exact ftop_sq t1
theorem fh_ne {k : Nat} (t : F k) : t * t + t ≠ fh k := fun h => by
  have h1 := ftop_sq t
  rw [h, ftop_h] at h1
  cases h1
theorem fone_ne : ∀ k : Nat, (1 : F k) ≠ 0
  | 0 => fun h => by cases h
  | k + 1 => fun h => by
    have e := congrArg (fun x : F (k + 1) => match x with | .pair _ a0 => a0) h
    exact fone_ne k e
theorem finv : ∀ {k : Nat} (a : F k), a ≠ 0 → ∃ b : F k, a * b = 1
  | _, .bit a, h => ⟨.bit true, by
    cases a with
    | false => exact absurd rfl h
    | true => rfl⟩
  | _, .pair (k := k) a1 a0, h => by
    have nz : ∀ x : F k, x ≠ 0 → ∀ y : F k, x * y = 0 → y = 0 := fun x hx y e => by
      obtain ⟨z, hz⟩ := finv x hx
      have : z * (x * y) = y := by rw [← fmul_assoc, fmul_comm z x, hz, fone_mul]
      rw [← this, e, fmul_zero]
    have hN : a0 * a0 + a0 * a1 + a1 * a1 * fh k ≠ 0 := by
      intro e
      by_cases h1 : a1 = 0
      · subst h1
        rw [fmul_zero, fadd_zero, fzero_mul, fzero_mul, fadd_zero] at e
        by_cases h0 : a0 = 0
        · subst h0; exact h rfl
        · exact h0 (nz a0 h0 a0 e)
      · obtain ⟨b, hb⟩ := finv a1 h1
        have e2 : (a0 * b) * (a0 * b) + a0 * b + fh k = 0 := by
          have e3 : b * b * (a0 * a0 + a0 * a1 + a1 * a1 * fh k) = 0 := by rw [e, fmul_zero]
          have t1 : b * b * (a0 * a0) = (a0 * b) * (a0 * b) := by simp only [fmul_assoc, fmul_comm, fmul_left_comm]
          have t2 : b * b * (a0 * a1) = a0 * b := by
            have : b * b * (a0 * a1) = (a0 * b) * (a1 * b) := by simp only [fmul_assoc, fmul_comm, fmul_left_comm]
            rw [this, hb, fmul_one]
          have t3 : b * b * (a1 * a1 * fh k) = fh k := by
            have : b * b * (a1 * a1 * fh k) = (a1 * b) * ((a1 * b) * fh k) := by simp only [fmul_assoc, fmul_comm, fmul_left_comm]
            rw [this, hb, fone_mul, fone_mul]
          rw [fmul_add, fmul_add, t1, t2, t3] at e3
          exact e3
        exact fh_ne _ (feq_of_add e2)
    obtain ⟨m, hm⟩ := finv _ hN
    refine ⟨.pair (a1 * m) ((a0 + a1) * m), ?_⟩
    rw [mul_mk, one_mk]
    have p1 : a1 * (a1 * m) + a1 * ((a0 + a1) * m) + a0 * (a1 * m) = 0 := by
      rw [fadd_mul, fmul_add, fmul_left_comm a0 a1 m, fadd_comm (a1 * (a0 * m)), ← fadd_assoc, fadd_self, fzero_add, fadd_self]
    have p0 : a0 * ((a0 + a1) * m) + a1 * (a1 * m) * fh k = 1 := by
      rw [← hm]
      simp only [fadd_mul, fmul_add]
      simp only [fmul_assoc, fmul_comm, fmul_left_comm, fadd_assoc, fadd_comm, fadd_left_comm]
    rw [p1, p0]
theorem fmul_eq_zero {k : Nat} {a b : F k} (ha : a ≠ 0) (h : a * b = 0) : b = 0 := by
  obtain ⟨z, hz⟩ := finv a ha
  have : z * (a * b) = b := by rw [← fmul_assoc, fmul_comm z a, hz, fone_mul]
  rw [← this, h, fmul_zero]
theorem fmul_cancel {k : Nat} {a b c : F k} (ha : a ≠ 0) (h : a * b = a * c) : b = c := by
  refine feq_of_add (fmul_eq_zero ha ?_)
  rw [fmul_add, h, fadd_self]
def fpow {k : Nat} (a : F k) : Nat → F k
  | 0 => 1
  | n + 1 => a * fpow a n
theorem fpow_add {k : Nat} (a : F k) (m n : Nat) : fpow a (m + n) = fpow a m * fpow a n := by
  induction m with
  | zero => rw [Nat.zero_add]; exact (fone_mul _).symm
  | succ m ih => rw [Nat.succ_add]; show a * fpow a (m + n) = a * fpow a m * fpow a n; rw [ih, fmul_assoc]
theorem fpow_mul {k : Nat} (a b : F k) (n : Nat) : fpow (a * b) n = fpow a n * fpow b n := by
  induction n with
  | zero => exact (fone_mul _).symm
  | succ n ih =>
    show a * b * fpow (a * b) n = a * fpow a n * (b * fpow b n)
    rw [ih]
    simp only [fmul_assoc, fmul_comm, fmul_left_comm]
theorem fpow_two {k : Nat} (a : F k) (n : Nat) : fpow a (2 * n) = fpow (a * a) n := by rw [Nat.two_mul, fpow_add, fpow_mul]
theorem fpow_one {k : Nat} (a : F k) : fpow a 1 = a := fmul_one a
def fsqn {k : Nat} : Nat → F k → F k
  | 0, a => a
  | n + 1, a => fsqn n (a * a)
theorem fsqn_pow {k : Nat} : ∀ (n : Nat) (a : F k), fsqn n a = fpow a (2 ^ n)
  | 0, a => (fpow_one a).symm
  | n + 1, a => by rw [fsqn, fsqn_pow n, Nat.pow_succ, Nat.mul_comm, fpow_two]
theorem fsqn_add {k : Nat} : ∀ (n : Nat) (a b : F k), fsqn n (a + b) = fsqn n a + fsqn n b
  | 0, a, b => rfl
  | n + 1, a, b => by rw [fsqn, fsqn, fsqn, fsq_add, fsqn_add n]
def fval : {k : Nat} → F k → Nat
  | _, .bit a => a.toNat
  | _, .pair (k := k) a1 a0 => 2 ^ 2 ^ k * fval a1 + fval a0
def fof : (k : Nat) → Nat → F k
  | 0, n => .bit (decide (n % 2 = 1))
  | k + 1, n => .pair (fof k (n / 2 ^ 2 ^ k)) (fof k (n % 2 ^ 2 ^ k))
theorem fval_lt : ∀ {k : Nat} (a : F k), fval a < 2 ^ 2 ^ k
  | _, .bit a => by cases a <;> decide
  | _, .pair (k := k) a1 a0 => by
    have h1 := fval_lt a1
    have h0 := fval_lt a0
    rw [sq_pow]
    show 2 ^ 2 ^ k * fval a1 + fval a0 < _
    generalize 2 ^ 2 ^ k = D at *
    calc D * fval a1 + fval a0 < D * fval a1 + D := by omega
      _ = D * (fval a1 + 1) := by rw [Nat.mul_add, Nat.mul_one]
      _ ≤ D * D := Nat.mul_le_mul_left _ h1
theorem fval_div {k : Nat} (a1 a0 : F k) : fval (F.pair a1 a0) / 2 ^ 2 ^ k = fval a1 := by
  show (2 ^ 2 ^ k * fval a1 + fval a0) / 2 ^ 2 ^ k = _
  rw [Nat.mul_add_div (Nat.two_pow_pos _), Nat.div_eq_of_lt (fval_lt a0), Nat.add_zero]
theorem fval_mod {k : Nat} (a1 a0 : F k) : fval (F.pair a1 a0) % 2 ^ 2 ^ k = fval a0 := by
  show (2 ^ 2 ^ k * fval a1 + fval a0) % 2 ^ 2 ^ k = _
  rw [Nat.mul_add_mod, Nat.mod_eq_of_lt (fval_lt a0)]
theorem fof_val : ∀ {k : Nat} (a : F k), fof k (fval a) = a
  | _, .bit a => by cases a <;> rfl
  | _, .pair (k := k) a1 a0 => by
    show F.pair (fof k (fval (F.pair a1 a0) / 2 ^ 2 ^ k)) (fof k (fval (F.pair a1 a0) % 2 ^ 2 ^ k)) = .pair a1 a0
    rw [fval_div, fval_mod, fof_val a1, fof_val a0]
theorem fval_of : ∀ {k : Nat} (n : Nat), n < 2 ^ 2 ^ k → fval (fof k n) = n
  | 0, n, h => by
    have h' : n < 2 := h
    have : n = 0 ∨ n = 1 := by omega
    rcases this with rfl | rfl <;> rfl
  | k + 1, n, h => by
    show 2 ^ 2 ^ k * fval (fof k (n / 2 ^ 2 ^ k)) + fval (fof k (n % 2 ^ 2 ^ k)) = n
    rw [sq_pow] at h
    rw [fval_of _ (Nat.div_lt_of_lt_mul h), fval_of _ (Nat.mod_lt _ (Nat.two_pow_pos _))]
    exact Nat.div_add_mod _ _
theorem fval_inj {k : Nat} {a b : F k} (h : fval a = fval b) : a = b := by rw [← fof_val a, h, fof_val]
theorem xor_pair (i a1 a0 b1 b0 : Nat) (ha : a0 < 2 ^ i) (hb : b0 < 2 ^ i) : (2 ^ i * a1 + a0) ^^^ (2 ^ i * b1 + b0) = 2 ^ i * (a1 ^^^ b1) + (a0 ^^^ b0) := by
  apply Nat.eq_of_testBit_eq
  intro j
  have hx := Nat.xor_lt_two_pow ha hb
  rw [Nat.testBit_xor, Nat.testBit_two_pow_mul_add _ ha, Nat.testBit_two_pow_mul_add _ hb, Nat.testBit_two_pow_mul_add _ hx]
  split <;> simp [Nat.testBit_xor]
theorem fval_add : ∀ {k : Nat} (a b : F k), fval (a + b) = fval a ^^^ fval b
  | _, .bit a, .bit b => by cases a <;> cases b <;> rfl
  | _, .pair (k := k) a1 a0, .pair b1 b0 => by
    rw [add_mk]
    show 2 ^ 2 ^ k * fval (a1 + b1) + fval (a0 + b0) = (2 ^ 2 ^ k * fval a1 + fval a0) ^^^ (2 ^ 2 ^ k * fval b1 + fval b0)
    rw [xor_pair _ _ _ _ _ (fval_lt a0) (fval_lt b0), fval_add, fval_add]
theorem fval_zero : ∀ k : Nat, fval (0 : F k) = 0
  | 0 => rfl
  | k + 1 => by
    show 2 ^ 2 ^ k * fval (0 : F k) + fval (0 : F k) = 0
    rw [fval_zero k, Nat.mul_zero]
theorem fval_one : ∀ k : Nat, fval (1 : F k) = 1
  | 0 => rfl
  | k + 1 => by
    show 2 ^ 2 ^ k * fval (0 : F k) + fval (1 : F k) = 1
    rw [fval_zero k, fval_one k, Nat.mul_zero]
theorem fval_h : ∀ k : Nat, fval (fh k) = 2 ^ 2 ^ k / 2
  | 0 => rfl
  | k + 1 => by
    show 2 ^ 2 ^ k * fval (fh k) + fval (0 : F k) = 2 ^ 2 ^ (k + 1) / 2
    rw [fval_zero, fval_h k, sq_pow, Nat.add_zero]
    obtain ⟨d, hd⟩ : ∃ d, 2 ^ 2 ^ k = 2 * d := ⟨2 ^ (2 ^ k - 1), by rw [← Nat.pow_succ']; congr 1; have := Nat.one_le_two_pow (n := k); omega⟩
    rw [hd, Nat.mul_div_cancel_left _ (by decide), show 2 * d * (2 * d) = 2 * (2 * d * d) by rw [Nat.mul_assoc 2 d (2 * d), Nat.mul_comm d (2 * d)], Nat.mul_div_cancel_left _ (by decide)]
theorem fval_mul : ∀ {k : Nat} (a b : F k), fval (a * b) = nm k (fval a) (fval b)
  | _, .bit a, .bit b => by cases a <;> cases b <;> rfl
  | _, .pair (k := k) a1 a0, .pair b1 b0 => by
    rw [mul_mk]
    show 2 ^ 2 ^ k * fval (a1 * b1 + a1 * b0 + a0 * b1) + fval (a0 * b0 + a1 * b1 * fh k) = _
    simp only [nm, fval_div, fval_mod, fval_add, fval_mul, fval_h]
theorem fsqn_mul {k : Nat} (n : Nat) (a b : F k) : fsqn n (a * b) = fsqn n a * fsqn n b := by rw [fsqn_pow, fsqn_pow, fsqn_pow, fpow_mul]
theorem fsqn_fsqn {k : Nat} (m : Nat) : ∀ (n : Nat) (a : F k), fsqn (m + n) a = fsqn m (fsqn n a)
  | 0, a => rfl
  | n + 1, a => fsqn_fsqn m n (a * a)
theorem low_add {k : Nat} (a b : F k) : F.pair 0 a + F.pair 0 b = F.pair 0 (a + b) := by rw [add_mk, fadd_self]
theorem low_mul {k : Nat} (a b : F k) : F.pair 0 a * F.pair 0 b = F.pair 0 (a * b) := by
  rw [mul_mk]; simp only [fzero_mul, fmul_zero, fadd_zero]
theorem fsqn_low {k : Nat} : ∀ (n : Nat) (a : F k), fsqn n (F.pair 0 a) = F.pair 0 (fsqn n a)
  | 0, a => rfl
  | n + 1, a => by rw [fsqn, low_mul, fsqn_low n]; rfl
theorem fsqn_x {k : Nat} : ∀ n : Nat, ∃ c : F k, fsqn n (F.pair 1 0) = F.pair 1 0 + F.pair 0 c
  | 0 => ⟨0, (fadd_zero _).symm⟩
  | n + 1 => by
    obtain ⟨c, hc⟩ := fsqn_x (k := k) n
    refine ⟨c + fsqn n (fh k), ?_⟩
    have e : F.pair (1 : F k) 0 * F.pair 1 0 = F.pair 1 0 + F.pair 0 (fh k) := by
      rw [mul_mk, add_mk]; simp only [fzero_mul, fmul_zero, fadd_zero, fone_mul, fzero_add]
    rw [fsqn, e, fsqn_add, hc, fsqn_low, fadd_assoc, low_add]
theorem fsqn_self : ∀ {k : Nat} (a : F k), fsqn (2 ^ k) a = a
  | _, .bit a => by cases a <;> rfl
  | _, .pair (k := k) a1 a0 => by
    have e : F.pair a1 a0 = F.pair 0 a1 * F.pair 1 0 + F.pair 0 a0 := by
      rw [mul_mk, add_mk]; simp only [fzero_mul, fmul_zero, fadd_zero, fmul_one, fzero_add]
    obtain ⟨c, hc⟩ := fsqn_x (k := k) (2 ^ k)
    rw [Nat.pow_succ, Nat.mul_two, fsqn_fsqn, e]
    simp only [fsqn_add, fsqn_mul, fsqn_low, fsqn_self a1, fsqn_self a0, hc, fsqn_self c]
    rw [fadd_assoc (F.pair 1 0), fadd_self, fadd_zero]
theorem fpow_self {k : Nat} (a : F k) : fpow a (2 ^ 2 ^ k) = a := by rw [← fsqn_pow, fsqn_self]
theorem fpow_ord {k : Nat} {a : F k} (h : a ≠ 0) : fpow a (2 ^ 2 ^ k - 1) = 1 := by
  have e := fpow_self a
  have hp := Nat.two_pow_pos (2 ^ k)
  rw [show 2 ^ 2 ^ k = (2 ^ 2 ^ k - 1) + 1 by omega] at e
  have e2 : a * fpow a (2 ^ 2 ^ k - 1) = a * 1 := by rw [fmul_one]; exact e
  exact fmul_cancel h e2
theorem fpow_inv {a : F 4} (h : a ≠ 0) : a * fpow a 65534 = 1 := fpow_ord h
end Go.Proofs.Ytadfobooofkelaa.Nim

namespace Go.Proofs.Ytadfobooofkelaa.X
set_option linter.unusedSimpArgs false
set_option linter.unusedVariables false
open Go.RowKit Go.Proofs.YtadfobooofkelaaW.PrintWords Go.Proofs.YtadfobooofkelaaW.PrintLast Go.Proofs.YtadfobooofkelaaW.PrintMore Go.Proofs.Ytadfobooofkelaa.Nim
theorem p_w64 {x : Int} (h : -9223372036854775808 ≤ x) (h2 : x ≤ 9223372036854775807) : wrap64 x = x := by unfold wrap64; omega
theorem wrap_u32 (n : Int) : IntKind.u32.wrap n = n % 4294967296 := by simp [IntKind.wrap, IntKind.bits, IntKind.signed]
theorem p_pos {α : Type} {c : Prop} [Decidable c] {g f : Nat → Option α} {r : α} (h : c) (e : Ev g r) : Ev (fun k => if c then g k else f k) r := Ev.congr (fun _ => if_pos h) e
theorem p_neg {α : Type} {c : Prop} [Decidable c] {g f : Nat → Option α} {r : α} (h : ¬ c) (e : Ev f r) : Ev (fun k => if c then g k else f k) r := Ev.congr (fun _ => if_neg h) e
theorem and32 (a b : Nat) (ha : a < 2 ^ 32) (hb : b < 2 ^ 32) : Go.bits .and .u32 (a : Int) (b : Int) = ((a &&& b : Nat) : Int) := by
  have hr : (a &&& b) < 2 ^ 32 := Nat.and_lt_two_pow _ hb
  simp only [Go.bits, BitVec.ofInt_natCast, BitVec.toNat_and, BitVec.toNat_ofNat]
  rw [wrap_u32]
  have e1 : a % 2 ^ IntKind.u32.bits = a := Nat.mod_eq_of_lt ha
  have e2 : b % 2 ^ IntKind.u32.bits = b := Nat.mod_eq_of_lt hb
  rw [e1, e2]
  omega
theorem or32 (a b : Nat) (ha : a < 2 ^ 32) (hb : b < 2 ^ 32) : Go.bits .or .u32 (a : Int) (b : Int) = ((a ||| b : Nat) : Int) := by
  have hr : (a ||| b) < 2 ^ 32 := Nat.or_lt_two_pow ha hb
  simp only [Go.bits, BitVec.ofInt_natCast, BitVec.toNat_or, BitVec.toNat_ofNat]
  rw [wrap_u32]
  have e1 : a % 2 ^ IntKind.u32.bits = a := Nat.mod_eq_of_lt ha
  have e2 : b % 2 ^ IntKind.u32.bits = b := Nat.mod_eq_of_lt hb
  rw [e1, e2]
  omega
theorem xor32 (a b : Nat) (ha : a < 2 ^ 32) (hb : b < 2 ^ 32) : Go.bits .xor .u32 (a : Int) (b : Int) = ((a ^^^ b : Nat) : Int) := by
  have hr : (a ^^^ b) < 2 ^ 32 := Nat.xor_lt_two_pow ha hb
  simp only [Go.bits, BitVec.ofInt_natCast, BitVec.toNat_xor, BitVec.toNat_ofNat]
  rw [wrap_u32]
  have e1 : a % 2 ^ IntKind.u32.bits = a := Nat.mod_eq_of_lt ha
  have e2 : b % 2 ^ IntKind.u32.bits = b := Nat.mod_eq_of_lt hb
  rw [e1, e2]
  omega
theorem shr32 (a h : Nat) (hh : h ≤ 32) : shr .u32 (a : Int) (h : Int) = ((a / 2 ^ h : Nat) : Int) := by
  unfold shr
  rw [show min ((h : Int)).toNat IntKind.u32.bits = h by simp [IntKind.bits]; omega]
  simp
theorem shl32 (a h : Nat) (hh : h ≤ 32) (hb : a * 2 ^ h < 2 ^ 32) : shl .u32 (a : Int) (h : Int) = ((a * 2 ^ h : Nat) : Int) := by
  unfold shl
  rw [show min ((h : Int)).toNat IntKind.u32.bits = h by simp [IntKind.bits]; omega, wrap_u32]
  have : ((a : Int) * 2 ^ h) = ((a * 2 ^ h : Nat) : Int) := by simp
  rw [this]
  omega
theorem mask32 (a h : Nat) (ha : a < 2 ^ 32) (hh : h ≤ 16) : Go.bits .and .u32 (a : Int) (((shl .u32 1 (h : Int)) - 1) % 4294967296) = ((a % 2 ^ h : Nat) : Int) := by
  have hp : 2 ^ h ≤ 2 ^ 16 := Nat.pow_le_pow_right (by decide) hh
  have hp0 := Nat.two_pow_pos h
  have e := shl32 1 h (by omega) (by omega)
  rw [show ((1 : Nat) : Int) = 1 from rfl] at e
  rw [e, show (((1 * 2 ^ h : Nat) : Int) - 1) % 4294967296 = ((2 ^ h - 1 : Nat) : Int) by omega, and32 a _ ha (by omega), Nat.and_two_pow_sub_one_eq_mod]
theorem join32 (s t h : Nat) (hh : h ≤ 8) (hs : s < 2 ^ h) (ht : t < 2 ^ h) : Go.bits .or .u32 (shl .u32 (s : Int) (h : Int)) (t : Int) = ((2 ^ h * s + t : Nat) : Int) := by
  have hp : 2 ^ h ≤ 2 ^ 8 := Nat.pow_le_pow_right (by decide) hh
  have hb : s * 2 ^ h < 2 ^ 32 := by
    calc s * 2 ^ h ≤ 2 ^ 8 * 2 ^ 8 := Nat.mul_le_mul (by omega) hp
      _ < 2 ^ 32 := by decide
  rw [shl32 s h (by omega) hb, or32 _ _ hb (by omega), Nat.mul_comm s, Nat.two_pow_add_eq_or_of_lt ht]
theorem join32' (s t h : Nat) (hh : h ≤ 8) (hs : s < 2 ^ h) (ht : t < 2 ^ h) : Go.bits .or .u32 (t : Int) (shl .u32 (s : Int) (h : Int)) = ((2 ^ h * s + t : Nat) : Int) := by
  have hp : 2 ^ h ≤ 2 ^ 8 := Nat.pow_le_pow_right (by decide) hh
  have hb : s * 2 ^ h < 2 ^ 32 := by
    calc s * 2 ^ h ≤ 2 ^ 8 * 2 ^ 8 := Nat.mul_le_mul (by omega) hp
      _ < 2 ^ 32 := by decide
  rw [shl32 s h (by omega) hb, or32 _ _ (by omega) hb, Nat.or_comm, Nat.mul_comm s, Nat.two_pow_add_eq_or_of_lt ht]
theorem halfbits (j : Nat) (hj : j ≤ 3) : wrap64 (Int.tdiv ((2 ^ (j + 1) : Nat) : Int) 2) = ((2 ^ j : Nat) : Int) := by
  rcases (show j = 0 ∨ j = 1 ∨ j = 2 ∨ j = 3 by omega) with rfl | rfl | rfl | rfl <;> decide +kernel
theorem fv_lt32 {j : Nat} (hj : j ≤ 4) (a : F j) : fval a < 2 ^ 32 := by
  have h := fval_lt a
  have h4 : 2 ^ j ≤ 2 ^ 4 := Nat.pow_le_pow_right (by decide) hj
  have : 2 ^ 2 ^ j ≤ 2 ^ 16 := Nat.pow_le_pow_right (by decide) h4
  omega
theorem pow_le8 (j : Nat) (hj : j ≤ 3) : 2 ^ j ≤ 8 := show 2 ^ j ≤ 2 ^ 3 from Nat.pow_le_pow_right (by decide) hj
theorem pow_nn (j : Nat) : (0 : Int) ≤ ((2 ^ j : Nat) : Int) := Int.natCast_nonneg _
theorem half_ev : ∀ (j : Nat) (a : F j), j ≤ 4 → Ev (fun k => impl_half.f k (fval a : Nat) ((2 ^ j : Nat) : Int)) ((fval (a * fh j) : Nat) : Int)
  | 0, a, _ => by
    refine Ev.step (f := fun k => impl_half.j0 k ((fval a : Nat) : Int) ((2 ^ 0 : Nat) : Int) true) (fun k => by simp only [impl_half.f]; rw [if_pos (by decide)]) ?_
    refine Ev.step (f := fun _ => some ((fval a : Nat) : Int)) (fun k => by simp only [impl_half.j0, if_true]) ?_
    rw [show a * fh 0 = a from fmul_one a]
    exact Ev.now _
  | j + 1, .pair a1 a0, hj => by
    have hj3 : j ≤ 3 := by omega
    have h8 := pow_le8 j hj3
    have hne : ¬ ((2 ^ (j + 1) : Nat) : Int) = 1 := by
      have : 2 ≤ 2 ^ (j + 1) := by rw [Nat.pow_succ]; have := Nat.one_le_two_pow (n := j); omega
      omega
    have ha := fv_lt32 hj (.pair a1 a0)
    refine Ev.step (fun k => by simp only [impl_half.f]; rfl) (p_neg hne ?_)
    by_cases h0 : fval (F.pair a1 a0) = 0
    · have hz : F.pair a1 a0 = 0 := fval_inj (by rw [h0, fval_zero])
      refine Ev.step (f := fun _ => some ((fval (F.pair a1 a0) : Nat) : Int)) (fun k => ?_) ?_
      · simp only [impl_half.j0]; rw [if_pos (by rw [h0]; rfl)]
      · rw [hz, fzero_mul]; exact Ev.now _
    · refine Ev.step (f := fun k => (impl_half.f k ((fval a1 : Nat) : Int) ((2 ^ j : Nat) : Int)).bind fun t101 => (impl_half.f k t101 ((2 ^ j : Nat) : Int)).bind fun t102 => (impl_half.f k ((fval a0 : Nat) : Int) ((2 ^ j : Nat) : Int)).bind fun t103 => some (Go.bits .or .u32 t102 (shl .u32 (Go.bits .xor .u32 t101 t103) ((2 ^ j : Nat) : Int)))) (fun k => ?_) (Ev.bind (half_ev j a1 (by omega)) (Ev.bind (half_ev j (a1 * fh j) (by omega)) (Ev.bind (half_ev j a0 (by omega)) ?_)))
      · simp only [impl_half.j0]
        rw [if_neg (by simpa using h0), halfbits j hj3, if_pos (pow_nn j), shr32 _ _ (by omega), mask32 _ _ ha (by omega), fval_div, fval_mod]
      · have l1 := fv_lt32 (by omega) (a1 * fh j)
        have l2 := fv_lt32 (by omega) (a0 * fh j)
        rw [xor32 _ _ l1 l2, ← fval_add, join32' _ _ _ h8 (fval_lt _) (fval_lt _)]
        have e : F.pair a1 a0 * fh (j + 1) = F.pair (a1 * fh j + a0 * fh j) (a1 * fh j * fh j) := by
          show F.pair a1 a0 * F.pair (fh j) 0 = _
          rw [mul_mk]
          simp only [fmul_zero, fadd_zero, fzero_add]
        rw [e]
        exact Ev.now _
theorem product_ev : ∀ (j : Nat) (a b : F j), j ≤ 4 → Ev (fun k => impl_product.f k (fval a : Nat) (fval b : Nat) ((2 ^ j : Nat) : Int)) ((fval (a * b) : Nat) : Int) := by
  intro j
  induction j with
  | zero =>
    intro a b _
    cases a with | bit a =>
    cases b with | bit b =>
    have z : ∀ a b : Bool, impl_product.f 3 ((fval (F.bit a) : Nat) : Int) ((fval (F.bit b) : Nat) : Int) ((2 ^ 0 : Nat) : Int) = some ((fval (F.bit a * F.bit b) : Nat) : Int) := by decide +kernel
    exact Ev.of (fun k => impl_product.mono _ _ _ k) (z a b)
  | succ j ih =>
    intro a b hj
    have hj3 : j ≤ 3 := by omega
    have h8 := pow_le8 j hj3
    have ha := fv_lt32 hj a
    have hb := fv_lt32 hj b
    by_cases a0 : fval a = 0
    · have hz : a = 0 := fval_inj (by rw [a0, fval_zero])
      refine Ev.step (f := fun k => impl_product.j0 k ((fval a : Nat) : Int) ((fval b : Nat) : Int) ((2 ^ (j + 1) : Nat) : Int) true) (fun k => by simp only [impl_product.f]; rw [if_pos (by omega)]) (Ev.step (f := fun _ => some 0) (fun k => by simp only [impl_product.j0, if_true]) ?_)
      rw [hz, fzero_mul, fval_zero]; exact Ev.now _
    refine Ev.step (f := fun k => impl_product.j0 k ((fval a : Nat) : Int) ((fval b : Nat) : Int) ((2 ^ (j + 1) : Nat) : Int) (((fval b : Nat) : Int) == 0)) (fun k => by simp only [impl_product.f]; rw [if_neg (by omega)]) ?_
    by_cases b0 : fval b = 0
    · have hz : b = 0 := fval_inj (by rw [b0, fval_zero])
      refine Ev.step (f := fun _ => some 0) (fun k => by simp only [impl_product.j0]; rw [if_pos (by rw [b0]; rfl)]) ?_
      rw [hz, fmul_zero, fval_zero]; exact Ev.now _
    refine Ev.step (fun k => by simp only [impl_product.j0]; rw [if_neg (by simpa using b0)]) ?_
    by_cases a1 : fval a = 1
    · have hz : a = 1 := fval_inj (by rw [a1, fval_one])
      refine p_pos (by omega) ?_
      rw [hz, fone_mul]; exact Ev.now _
    refine p_neg (by omega) ?_
    by_cases b1 : fval b = 1
    · have hz : b = 1 := fval_inj (by rw [b1, fval_one])
      refine p_pos (by omega) ?_
      rw [hz, fmul_one]; exact Ev.now _
    refine p_neg (by omega) ?_
    cases a with | pair x1 x0 =>
    cases b with | pair y1 y0 =>
    rw [halfbits j hj3]
    refine p_pos (pow_nn j) ?_
    rw [shr32 _ _ (by omega), shr32 _ _ (by omega), mask32 _ _ ha (by omega), mask32 _ _ hb (by omega), fval_div, fval_mod, fval_div, fval_mod]
    have full : Ev (fun k => impl_product.j1 k ((2 ^ j : Nat) : Int) ((fval x0 : Nat) : Int) ((fval x1 : Nat) : Int) ((fval y0 : Nat) : Int) ((fval y1 : Nat) : Int) false) ((fval (F.pair x1 x0 * F.pair y1 y0) : Nat) : Int) := by
      refine Ev.step (fun k => by simp only [impl_product.j1, Bool.false_eq_true, if_false]; rfl) (Ev.bind (ih x1 y1 (by omega)) (Ev.bind (ih x0 y0 (by omega)) ?_))
      rw [xor32 _ _ (fv_lt32 (by omega) x0) (fv_lt32 (by omega) x1), xor32 _ _ (fv_lt32 (by omega) y0) (fv_lt32 (by omega) y1), ← fval_add, ← fval_add]
      refine Ev.bind (ih (x0 + x1) (y0 + y1) (by omega)) (p_pos (pow_nn j) (Ev.bind (half_ev j (x1 * y1) (by omega)) ?_))
      rw [xor32 _ _ (fv_lt32 (by omega) _) (fv_lt32 (by omega) _), ← fval_add, join32 _ _ _ h8 (fval_lt _) (fval_lt _)]
      have hp : (2 ^ 2 ^ j * fval ((x0 + x1) * (y0 + y1) + x0 * y0) + fval (x0 * y0)) = fval (F.pair ((x0 + x1) * (y0 + y1) + x0 * y0) (x0 * y0)) := rfl
      have hq : fval (x1 * y1 * fh j) = fval (F.pair 0 (x1 * y1 * fh j)) := by
        show _ = 2 ^ 2 ^ j * fval (0 : F j) + fval (x1 * y1 * fh j)
        rw [fval_zero, Nat.mul_zero, Nat.zero_add]
      rw [hp, hq, xor32 _ _ (fv_lt32 hj _) (fv_lt32 hj _), ← fval_add]
      have e : F.pair ((x0 + x1) * (y0 + y1) + x0 * y0) (x0 * y0) + F.pair 0 (x1 * y1 * fh j) = F.pair x1 x0 * F.pair y1 y0 := by
        rw [add_mk, mul_mk, fadd_zero]
        congr 1
        simp only [fadd_mul, fmul_add]
        have : ∀ a b c d : F j, a + b + (c + d) + a = d + b + c := fun a b c d => by
          simp only [fadd_assoc, fadd_comm, fadd_left_comm, fadd_cancel, fadd_self, fadd_zero, fzero_add]
        exact this (x0 * y0) (x1 * y0) (x0 * y1) (x1 * y1)
      rw [e]
      exact Ev.now _
    by_cases hx : fval x1 = 0
    · refine p_pos (by omega) ?_
      by_cases hy : fval y1 = 0
      · have zx : x1 = 0 := fval_inj (by rw [hx, fval_zero])
        have zy : y1 = 0 := fval_inj (by rw [hy, fval_zero])
        refine Ev.step (fun k => by simp only [impl_product.j1]; rw [if_pos (by rw [hy]; rfl)]) (Ev.bind (ih x0 y0 (by omega)) ?_)
        have e : fval (F.pair x1 x0 * F.pair y1 y0) = fval (x0 * y0) := by
          rw [zx, zy, low_mul]
          show 2 ^ 2 ^ j * fval (0 : F j) + fval (x0 * y0) = _
          rw [fval_zero, Nat.mul_zero, Nat.zero_add]
        rw [e]
        exact Ev.now _
      · rw [show (((fval y1 : Nat) : Int) == 0) = false by simpa using hy]
        exact full
    · exact p_neg (by omega) full
def tI (a : F 4) : Int := (fval a : Nat)
theorem tI_lt (a : F 4) : 0 ≤ tI a ∧ tI a < 65536 := by have := fval_lt a; unfold tI; omega
theorem times_evF (a b : F 4) : Ev (fun k => impl_times.f k (tI a) (tI b)) (tI (a * b)) := by
  unfold impl_times.f
  have h1 := tI_lt a
  have h2 := tI_lt b
  have h3 := tI_lt (a * b)
  rw [show tI a % 4294967296 = tI a by omega, show tI b % 4294967296 = tI b by omega]
  refine Ev.bind (product_ev 4 a b (by decide)) ?_
  rw [show IntKind.u16.wrap ((fval (a * b) : Nat) : Int) = tI (a * b) by rw [Nim.wrap_u16]; show tI (a * b) % 65536 = _; omega]
  exact Ev.now _
end Go.Proofs.Ytadfobooofkelaa.X

namespace Go.Proofs.Ytadfobooofkelaa.Nim
set_option linter.unusedVariables false
set_option linter.unusedSimpArgs false
variable {n : Nat}
def ev : List (F n) → F n → F n
  | [], _ => 0
  | a :: p, x => a + x * ev p x
def AZ (p : List (F n)) : Prop := ∀ a ∈ p, a = 0
theorem ev_az : ∀ (p : List (F n)) (x : F n), AZ p → ev p x = 0
  | [], _, _ => rfl
  | a :: p, x, h => by
    rw [ev, ev_az p x (fun b hb => h b (List.mem_cons_of_mem _ hb)), h a (List.mem_cons_self ..), fmul_zero, fadd_zero]
def dq (r : F n) : List (F n) → List (F n)
  | [] => []
  | [_] => []
  | _ :: b :: p => ev (b :: p) r :: dq r (b :: p)
theorem dq_length (r : F n) : ∀ p : List (F n), (dq r p).length = p.length - 1
  | [] => rfl
  | [_] => rfl
  | _ :: b :: p => by
    have := dq_length r (b :: p)
    simp only [dq, List.length_cons] at this ⊢
    omega
theorem ev_dq (r x : F n) : ∀ p : List (F n), ev p x + ev p r = (x + r) * ev (dq r p) x
  | [] => by simp only [dq, ev, fmul_zero, fadd_self]
  | [a] => by simp only [dq, ev, fmul_zero, fadd_zero, fadd_self]
  | a :: b :: p => by
    have ih := ev_dq r x (b :: p)
    rw [dq, ev, ev]
    show a + x * ev (b :: p) x + (a + r * ev (b :: p) r) = (x + r) * (ev (b :: p) r + x * ev (dq r (b :: p)) x)
    have e1 : a + x * ev (b :: p) x + (a + r * ev (b :: p) r) = x * ev (b :: p) x + r * ev (b :: p) r := by
      rw [fadd_assoc, fadd_left_comm (x * ev (b :: p) x), ← fadd_assoc, fadd_self, fzero_add]
    have e2 : ev (b :: p) x = ev (b :: p) r + (x + r) * ev (dq r (b :: p)) x := by rw [← ih, fadd_comm (ev (b :: p) x), fadd_cancel]
    rw [e1, e2, fmul_add, fmul_add, fadd_mul x r (ev (b :: p) r), fmul_left_comm x (x + r), fadd_assoc, fadd_comm ((x + r) * _), ← fadd_assoc]
theorem az_of_dq (r : F n) : ∀ p : List (F n), ev p r = 0 → AZ (dq r p) → AZ p
  | [], _, _ => fun a ha => by cases ha
  | [a], h, _ => by
    have : a = 0 := by simpa only [ev, fmul_zero, fadd_zero] using h
    intro b hb
    simp only [List.mem_singleton] at hb
    rw [hb, this]
  | a :: b :: p, h, hz => by
    have h0 : ev (b :: p) r = 0 := hz _ (by simp [dq])
    have ih := az_of_dq r (b :: p) h0 (fun c hc => hz c (by rw [dq]; exact List.mem_cons_of_mem _ hc))
    have ha : a = 0 := by
      have e : a + r * ev (b :: p) r = 0 := h
      rwa [h0, fmul_zero, fadd_zero] at e
    intro c hc
    rcases List.mem_cons.1 hc with rfl | hc
    · exact ha
    · exact ih c hc
theorem roots_az : ∀ (rs p : List (F n)), rs.Nodup → p.length ≤ rs.length → (∀ r ∈ rs, ev p r = 0) → AZ p
  | [], p, _, hl, _ => by
    have : p = [] := List.eq_nil_of_length_eq_zero (by simpa using hl)
    subst this
    exact fun a ha => by cases ha
  | r :: rs, p, hd, hl, hr => by
    rw [List.nodup_cons] at hd
    refine az_of_dq r p (hr r (List.mem_cons_self ..)) (roots_az rs (dq r p) hd.2 (by rw [dq_length]; simp only [List.length_cons] at hl; omega) (fun s hs => ?_))
    have e := ev_dq r s p
    rw [hr s (List.mem_cons_of_mem _ hs), hr r (List.mem_cons_self ..), fadd_self] at e
    refine fmul_eq_zero (fun h0 => ?_) e.symm
    exact hd.1 (feq_of_add h0 ▸ hs)
def addL : List (F n) → List (F n) → List (F n)
  | [], q => q
  | p, [] => p
  | a :: p, b :: q => (a + b) :: addL p q
theorem addL_length : ∀ p q : List (F n), (addL p q).length = max p.length q.length
  | [], q => by simp [addL]
  | a :: p, [] => by simp [addL]
  | a :: p, b :: q => by
    have := addL_length p q
    simp only [addL, List.length_cons, this]
    omega
theorem ev_addL : ∀ (p q : List (F n)) (x : F n), ev (addL p q) x = ev p x + ev q x
  | [], q, x => by rw [addL, ev, fzero_add]
  | a :: p, [], x => by rw [addL, ev, ev, fadd_zero]; intro h; cases h
  | a :: p, b :: q, x => by
    rw [addL, ev, ev, ev, ev_addL p q x, fmul_add]
    simp only [fadd_assoc, fadd_comm, fadd_left_comm]
theorem getD_addL : ∀ (p q : List (F n)) (i : Nat), (addL p q).getD i 0 = p.getD i 0 + q.getD i 0
  | [], q, i => by simp [addL, fzero_add]
  | a :: p, [], i => by simp [addL, fadd_zero]
  | a :: p, b :: q, 0 => by simp [addL]
  | a :: p, b :: q, i + 1 => by simpa [addL] using getD_addL p q i
def Trimmed (p : List (F n)) : Prop := 0 < p.length → p.getD (p.length - 1) 0 ≠ 0
theorem az_getD {p : List (F n)} (h : AZ p) (i : Nat) : p.getD i 0 = 0 := by
  rw [List.getD_eq_getElem?_getD]
  cases e : p[i]? with
  | none => rfl
  | some a => exact h a (List.mem_of_getElem? e)
theorem trimmed_eq {p q : List (F n)} (hp : Trimmed p) (hq : Trimmed q) (h : AZ (addL p q)) : p = q := by
  have hc : ∀ i, p.getD i 0 = q.getD i 0 := fun i => feq_of_add (by rw [← getD_addL]; exact az_getD h i)
  have beyond : ∀ (l : List (F n)) (i : Nat), l.length ≤ i → l.getD i 0 = 0 := fun l i hi => by simp [List.getD_eq_getElem?_getD, hi]
  have hl : p.length = q.length := by
    rcases Nat.lt_trichotomy p.length q.length with hlt | e | hlt
    · exact absurd ((hc _).symm.trans (beyond p (q.length - 1) (by omega))) (hq (by omega))
    · exact e
    · exact absurd ((hc _).trans (beyond q (p.length - 1) (by omega))) (hp (by omega))
  refine List.ext_getElem hl (fun i h1 h2 => ?_)
  have := hc i
  simpa [List.getD_eq_getElem?_getD, h1, h2] using this
theorem poly_unique (xs p q : List (F n)) (hd : xs.Nodup) (hp : Trimmed p) (hq : Trimmed q) (hpl : p.length ≤ xs.length) (hql : q.length ≤ xs.length) (h : ∀ x ∈ xs, ev p x = ev q x) : p = q :=
  trimmed_eq hp hq (roots_az xs _ hd (by rw [addL_length]; omega) (fun x hx => by rw [ev_addL, h x hx, fadd_self]))
theorem ev_set : ∀ (p : List (F n)) (j : Nat) (c x : F n), j < p.length → ev (p.set j (p.getD j 0 + c)) x = ev p x + c * fpow x j
  | [], j, c, x, h => by simp at h
  | a :: p, 0, c, x, _ => by
    show a + c + x * ev p x = a + x * ev p x + c * 1
    rw [fmul_one, fadd_assoc, fadd_comm c, ← fadd_assoc]
  | a :: p, j + 1, c, x, h => by
    have ih := ev_set p j c x (by simpa using h)
    show a + x * ev (p.set j (p.getD j 0 + c)) x = a + x * ev p x + c * (x * fpow x j)
    rw [ih, fmul_add, fadd_assoc, fmul_left_comm]
theorem ev_replicate (m : Nat) (x : F n) : ev (List.replicate m 0) x = 0 := ev_az _ _ (fun a ha => (List.mem_replicate.1 ha).2)
theorem ev_append : ∀ (p q : List (F n)) (x : F n), ev (p ++ q) x = ev p x + fpow x p.length * ev q x
  | [], q, x => by show ev q x = 0 + 1 * ev q x; rw [fzero_add, fone_mul]
  | a :: p, q, x => by
    show a + x * ev (p ++ q) x = a + x * ev p x + x * fpow x p.length * ev q x
    rw [ev_append p q x, fmul_add, fadd_assoc, fmul_assoc]
theorem ev_take_succ (p : List (F n)) (i : Nat) (h : i < p.length) (x : F n) : ev (p.take (i + 1)) x = ev (p.take i) x + p.getD i 0 * fpow x i := by
  rw [List.take_succ_eq_append_getElem h, ev_append]
  have e : (p.take i).length = i := by rw [List.length_take]; omega
  have g : p.getD i 0 = p[i] := by simp [List.getD_eq_getElem?_getD, h]
  rw [e, g]
  show _ + fpow x i * (p[i] + x * 0) = _
  rw [fmul_zero, fadd_zero, fmul_comm]
theorem ev_dropped (p : List (F n)) (i : Nat) (h : ∀ j, i ≤ j → p.getD j 0 = 0) (x : F n) : ev (p.take i) x = ev p x := by
  have e : ev p x = ev (p.take i ++ p.drop i) x := by rw [List.take_append_drop]
  rw [e, ev_append, ev_az (p.drop i) x, fmul_zero, fadd_zero]
  intro a ha
  obtain ⟨j, hj, rfl⟩ := List.mem_iff_getElem.1 ha
  rw [List.length_drop] at hj
  have := h (i + j) (by omega)
  simpa [List.getD_eq_getElem?_getD, show i + j < p.length by omega] using this
theorem ev_horner (p : List (F n)) (i : Nat) (h : i < p.length) (x : F n) : ev (p.drop i) x = ev (p.drop (i + 1)) x * x + p.getD i 0 := by
  rw [List.drop_eq_getElem_cons h]
  show p[i] + x * ev (p.drop (i + 1)) x = _
  rw [fmul_comm x, fadd_comm]
  simp [List.getD_eq_getElem?_getD, h]
end Go.Proofs.Ytadfobooofkelaa.Nim

namespace Go.Proofs.Ytadfobooofkelaa.X
open Go.RowKit Go.Proofs.YtadfobooofkelaaW.PrintWords Go.Proofs.YtadfobooofkelaaW.PrintLast Go.Proofs.YtadfobooofkelaaW.PrintMore Go.Proofs.Ytadfobooofkelaa.Nim
set_option linter.unusedSimpArgs false
set_option linter.unusedVariables false
theorem ev_some {α β : Type} {g : Option α} {f : Nat → α → Option β} {a : α} {r : β} (h : g = some a) (e : Ev (fun n => f n a) r) : Ev (fun n => g.bind (f n)) r := Ev.bind (g := fun _ => g) ⟨0, fun _ _ => h⟩ e
theorem tI_zero : tI 0 = 0 := by unfold tI; rw [fval_zero]; rfl
theorem tI_one : tI 1 = 1 := by unfold tI; rw [fval_one]; rfl
theorem tI_inj {a b : F 4} (h : tI a = tI b) : a = b := fval_inj (by unfold tI at h; omega)
theorem tI_eq0 {a : F 4} : tI a = 0 ↔ a = 0 := ⟨fun h => tI_inj (h.trans tI_zero.symm), fun h => by rw [h, tI_zero]⟩
theorem tI_xor (a b : F 4) : Go.bits .xor .u16 (tI a) (tI b) = tI (a + b) := by
  have h1 := tI_lt a
  have h2 := tI_lt b
  rw [Nim.xor16 _ _ h1.1 h1.2 h2.1 h2.2]
  unfold tI
  rw [Int.toNat_natCast, Int.toNat_natCast, fval_add]
theorem tI_of (x : Int) (h1 : 0 ≤ x) (h2 : x < 65536) : tI (fof 4 x.toNat) = x := by
  unfold tI
  rw [fval_of x.toNat (by show x.toNat < 65536; omega)]
  omega
theorem times_spec (a b : F 4) : spec_l01Times.f (tI a) (tI b) = some (tI (a * b)) := by
  have h1 := tI_lt a
  have h2 := tI_lt b
  unfold spec_l01Times.f
  rw [if_pos ⟨h1.1, h1.2, h2.1, h2.2⟩]
  unfold Nim.nmI tI
  rw [Int.toNat_natCast, Int.toNat_natCast, fval_mul]
abbrev tL (p : List (F 4)) : List Int := p.map tI
theorem rdM (p : List (F 4)) (i : Nat) : rd (tL p) (i : Int) = tI (p.getD i 0) := by
  simp only [rd, tL, Int.toNat_natCast, List.getD_eq_getElem?_getD, List.getElem?_map]
  cases p[i]? with
  | none => exact tI_zero.symm
  | some a => rfl
theorem setM (p : List (F 4)) (i : Nat) (c : F 4) : (tL p).set i (tI c) = tL (p.set i c) := by simp [tL, List.map_set]
theorem lenM (p : List (F 4)) : (tL p).length = p.length := by simp [tL]
theorem replM (m : Nat) : List.replicate m (0 : Int) = tL (List.replicate m 0) := by simp [tL, tI_zero]
theorem and1_64 (m : Nat) (h : m < 2 ^ 62) : Go.bits .and .i64 (m : Int) 1 = ((m % 2 : Nat) : Int) := by
  have e : Go.bits .and .i64 (m : Int) 1 = IntKind.i64.wrap (((m % 2 ^ 64) &&& 1 : Nat) : Int) := by
    simp only [Go.bits, BitVec.ofInt_natCast, BitVec.toNat_and, BitVec.toNat_ofNat]
    rfl
  rw [e, Nat.and_one_is_mod]
  have : ((m % 2 ^ 64 % 2 : Nat) : Int) = ((m % 2 : Nat) : Int) := by omega
  rw [this]
  have h2 : m % 2 < 2 := Nat.mod_lt _ (by decide)
  have : m % 2 = 0 ∨ m % 2 = 1 := by omega
  rcases this with h | h <;> rw [h] <;> decide +kernel
theorem odd_step (out a : F 4) (m : Nat) (h : m % 2 = 1) : out * a * fpow (a * a) (m / 2) = out * fpow a m := by
  have e : m = 2 * (m / 2) + 1 := by omega
  rw [← fpow_two, fmul_assoc]
  conv => rhs; rw [e]
  rfl
theorem even_step (out a : F 4) (m : Nat) (h : m % 2 = 0) : out * fpow (a * a) (m / 2) = out * fpow a m := by
  have e : m = 2 * (m / 2) := by omega
  rw [← fpow_two]
  conv => rhs; rw [e]
theorem specPower_l0 : ∀ (m : Nat) (a out : F 4), m < 2 ^ 62 → Ev (fun k => spec_l01Power.l0 k (tI a) (m : Int) (tI out)) (tI (out * fpow a m)) := by
  intro m
  induction m using Nat.strongRecOn with
  | ind m ih =>
    intro a out hm
    by_cases h0 : m = 0
    · subst h0
      refine Ev.step (f := fun _ => some (tI out)) (fun k => ?_) ?_
      · simp only [spec_l01Power.l0]; rw [if_neg (by omega)]
      · rw [show out * fpow a 0 = out from fmul_one out]; exact Ev.now _
    · have e1 : Int.tmod (m : Int) 2 = ((m % 2 : Nat) : Int) := by rw [Int.tmod_eq_emod_of_nonneg (by omega)]; omega
      have e2 : wrap64 (Int.tdiv (m : Int) 2) = ((m / 2 : Nat) : Int) := by rw [Int.tdiv_eq_ediv_of_nonneg (by omega), p_w64 (by omega) (by omega)]; omega
      by_cases hp : m % 2 = 1
      · have := ih (m / 2) (by omega) (a * a) (out * a) (by omega)
        rw [odd_step out a m hp] at this
        refine Ev.step (fun k => ?_) this
        simp only [spec_l01Power.l0, times_spec, Option.bind_some, e1, e2]
        rw [if_pos (by omega), if_pos (by omega)]
      · have := ih (m / 2) (by omega) (a * a) out (by omega)
        rw [even_step out a m (by omega)] at this
        refine Ev.step (fun k => ?_) this
        simp only [spec_l01Power.l0, times_spec, Option.bind_some, e1, e2]
        rw [if_pos (by omega), if_neg (by omega)]
theorem implPower_l0 : ∀ (m : Nat) (a out : F 4), m < 2 ^ 62 → Ev (fun k => impl_power.l0 k (tI a) (m : Int) (tI out)) (tI (out * fpow a m)) := by
  intro m
  induction m using Nat.strongRecOn with
  | ind m ih =>
    intro a out hm
    by_cases h0 : m = 0
    · subst h0
      refine Ev.step (f := fun _ => some (tI out)) (fun k => ?_) ?_
      · simp only [impl_power.l0]; rw [if_neg (by omega)]
      · rw [show out * fpow a 0 = out from fmul_one out]; exact Ev.now _
    · have e1 := and1_64 m hm
      have e2 : (m : Int) / 2 = ((m / 2 : Nat) : Int) := by omega
      by_cases hp : m % 2 = 1
      · have := ih (m / 2) (by omega) (a * a) (out * a) (by omega)
        rw [odd_step out a m hp] at this
        refine Ev.step (f := fun k => (impl_times.f k (tI out) (tI a)).bind fun t101 => (impl_times.f k (tI a) (tI a)).bind fun t102 => impl_power.l0 k t102 ((m / 2 : Nat) : Int) t101) (fun k => ?_) (Ev.bind (times_evF out a) (Ev.bind (times_evF a a) this))
        simp only [impl_power.l0, e1, e2]
        rw [if_pos (by omega), if_pos (by omega)]
      · have := ih (m / 2) (by omega) (a * a) out (by omega)
        rw [even_step out a m (by omega)] at this
        refine Ev.step (f := fun k => (impl_times.f k (tI a) (tI a)).bind fun t102 => impl_power.l0 k t102 ((m / 2 : Nat) : Int) (tI out)) (fun k => ?_) (Ev.bind (times_evF a a) this)
        simp only [impl_power.l0, e1, e2]
        rw [if_pos (by omega), if_neg (by omega)]
def finvF (a : F 4) : F 4 := fpow a 65534
theorem finvF_mul {a : F 4} (h : a ≠ 0) : a * finvF a = 1 := fpow_inv h
theorem specInv_ev (a : F 4) : Ev (fun k => spec_l01Inverse.f k (tI a)) (tI (finvF a)) := by
  unfold spec_l01Inverse.f spec_l01Power.f
  have := specPower_l0 65534 a 1 (by decide)
  rw [fone_mul, tI_one] at this
  exact Ev.bind this (Ev.now _)
theorem implInv_ev (a : F 4) : Ev (fun k => impl_inverse.f k (tI a)) (tI (finvF a)) := by
  unfold impl_inverse.f impl_power.f
  by_cases h : a = 0
  · subst h
    refine p_pos tI_zero ?_
    have : finvF (0 : F 4) = 0 := by show (0 : F 4) * fpow 0 65533 = 0; rw [fzero_mul]
    rw [this, tI_zero]; exact Ev.now _
  · refine p_neg (fun e => h (tI_eq0.1 e)) ?_
    have := implPower_l0 65534 a 1 (by decide)
    rw [fone_mul, tI_one] at this
    exact Ev.bind this (Ev.now _)
theorem trim_l0 (p : List (F 4)) (hl : p.length ≤ 1000) : ∀ m : Nat, m ≤ p.length → (∀ j, m ≤ j → p.getD j 0 = 0) →
    ∃ r : List (F 4), Trimmed r ∧ r.length ≤ m ∧ (∀ x, ev r x = ev p x) ∧ Ev (fun k => impl_trim.l0 k (tL p) (m : Int)) (tL r) ∧ Ev (fun k => spec_l05Trim.l0 k (tL p) (m : Int)) (tL r)
  | 0, _, hz => by
    refine ⟨[], fun h => absurd h (by simp), by simp, fun x => ?_, Ev.step (f := fun _ => some []) (fun k => ?_) (Ev.now _), Ev.step (f := fun _ => some []) (fun k => ?_) (Ev.now _)⟩
    · have := ev_dropped p 0 hz x
      rw [← this]; rfl
    · simp only [impl_trim.l0]
      rw [if_neg (by omega), if_pos (by omega), if_pos (by omega)]
      rfl
    · simp only [spec_l05Trim.l0]
      rw [if_neg (by omega), Option.bind_some, if_pos (by omega), if_pos (by omega)]
      rfl
  | m + 1, hm, hz => by
    have hw : wrap64 (((m + 1 : Nat) : Int) - 1) = (m : Int) := by rw [p_w64 (by omega) (by omega)]; omega
    have hlm := lenM p
    by_cases h0 : p.getD m 0 = 0
    · obtain ⟨r, h1, h2, h3, e1, e2⟩ := trim_l0 p hl m (by omega) (fun j hj => by
        rcases Nat.eq_or_lt_of_le hj with rfl | h
        · exact h0
        · exact hz j h)
      refine ⟨r, h1, by omega, h3, Ev.step (fun k => ?_) e1, Ev.step (fun k => ?_) e2⟩
      · simp only [impl_trim.l0, hw, rdM]
        rw [if_pos (by omega), if_pos (by omega), if_pos (by omega), if_pos (tI_eq0.2 h0)]
      · simp only [spec_l05Trim.l0, hw, rdM]
        rw [if_pos (by omega), if_pos (by omega), if_pos (by omega), if_pos (tI_eq0.2 h0)]
    · have hn : ¬ tI (p.getD m 0) = 0 := fun e => h0 (tI_eq0.1 e)
      have ht : (tL p).take (((m + 1 : Nat) : Int)).toNat = tL (p.take (m + 1)) := by rw [Int.toNat_natCast]; simp [tL, List.map_take]
      have hlen : (p.take (m + 1)).length = m + 1 := by rw [List.length_take]; omega
      refine ⟨p.take (m + 1), fun _ => ?_, by omega, fun x => ev_dropped p (m + 1) hz x, Ev.step (f := fun _ => some (tL (p.take (m + 1)))) (fun k => ?_) (Ev.now _), Ev.step (f := fun _ => some (tL (p.take (m + 1)))) (fun k => ?_) (Ev.now _)⟩
      · rw [hlen]
        show (p.take (m + 1)).getD m 0 ≠ 0
        have : (p.take (m + 1)).getD m 0 = p.getD m 0 := by simp [List.getD_eq_getElem?_getD, List.getElem?_take]
        rw [this]; exact h0
      · simp only [impl_trim.l0, hw, rdM]
        rw [if_pos (by omega), if_pos (by omega), if_pos (by omega), if_neg hn, if_pos (by omega), if_pos (by omega), ht]
        simp only [impl_Nimber.f, Option.bind_some, List.nil_append, List.length_nil, Nat.zero_add]
        rw [if_pos (by rw [lenM, hlen]; omega)]
        rfl
      · simp only [spec_l05Trim.l0, hw, rdM]
        rw [if_pos (by omega), if_pos (by omega), if_pos (by omega), if_neg hn, Option.bind_some, if_pos (by omega), if_pos (by omega), ht]
        simp only [List.nil_append, List.length_nil, Nat.zero_add]
        rw [if_pos (by rw [lenM, hlen]; omega)]
theorem trim_ev (p : List (F 4)) (hl : p.length ≤ 1000) : ∃ r : List (F 4), Trimmed r ∧ r.length ≤ p.length ∧ (∀ x, ev r x = ev p x) ∧ Ev (fun k => impl_trim.f k (tL p)) (tL r) ∧ Ev (fun k => spec_l05Trim.f k (tL p)) (tL r) := by
  unfold impl_trim.f spec_l05Trim.f
  rw [lenM]
  exact trim_l0 p hl p.length (Nat.le_refl _) (fun j hj => by simp [List.getD_eq_getElem?_getD, hj])
theorem w64s (i : Nat) (h : i < 4611686018427387904) : wrap64 ((i : Int) + 1) = ((i + 1 : Nat) : Int) := by rw [p_w64 (by omega) (by omega)]; rfl
def SumR (N : Nat) (g : F 4 → F 4) (f : Nat → Option (List Int)) : Prop := ∃ r : List (F 4), Trimmed r ∧ r.length ≤ N ∧ (∀ x, ev r x = g x) ∧ Ev f (tL r)
theorem SumR.congr {N : Nat} {g : F 4 → F 4} {f f' : Nat → Option (List Int)} (h : ∀ k, f k = f' k) (s : SumR N g f') : SumR N g f := by
  rwa [show f = f' from funext h]
theorem SumR.pos {N : Nat} {g : F 4 → F 4} {c : Prop} [Decidable c] {f f' : Nat → Option (List Int)} (h : c) (s : SumR N g f) : SumR N g (fun k => if c then f k else f' k) := SumR.congr (fun _ => if_pos h) s
theorem SumR.neg {N : Nat} {g : F 4 → F 4} {c : Prop} [Decidable c] {f f' : Nat → Option (List Int)} (h : ¬ c) (s : SumR N g f') : SumR N g (fun k => if c then f k else f' k) := SumR.congr (fun _ => if_neg h) s
theorem SumR.step {N : Nat} {g : F 4 → F 4} {f f' : Nat → Option (List Int)} (h : ∀ k, f (k + 1) = f' k) (s : SumR N g f') : SumR N g f := by
  obtain ⟨r, h1, h2, h3, h4⟩ := s
  exact ⟨r, h1, h2, h3, Ev.step h h4⟩
theorem set_ev (o : List (F 4)) (i : Nat) (c x : F 4) (h : i < o.length) : ev (o.set i (o.getD i 0 + c)) x = ev o x + c * fpow x i := ev_set o i c x h
theorem specPlus_l1 (b : List (F 4)) (N : Nat) (hN : N ≤ 1000) (hb : b.length ≤ N) (g : F 4 → F 4) : ∀ (d i : Nat) (o : List (F 4)), b.length - i = d → i ≤ b.length → o.length = N → (∀ x, ev o x = g x + ev (b.take i) x) →
    SumR N (fun x => g x + ev b x) (fun k => spec_l05Plus.l1 k (tL b) (tL o) (i : Int)) := by
  intro d
  induction d with
  | zero =>
    intro i o hd hi ho hv
    obtain ⟨r, h1, h2, h3, _, e2⟩ := trim_ev o (by omega)
    refine ⟨r, h1, by omega, fun x => ?_, Ev.step (f := fun k => (spec_l05Trim.f k (tL o)).bind fun t => some t) (fun k => ?_) (Ev.bind e2 (Ev.now _))⟩
    · rw [h3, hv, List.take_of_length_le (by omega)]
    · simp only [spec_l05Plus.l1, lenM]; rw [if_neg (by omega)]
  | succ d ih =>
    intro i o hd hi ho hv
    refine SumR.step (fun k => ?_) (ih (i + 1) (o.set i (o.getD i 0 + b.getD i 0)) (by omega) (by omega) (by simp [ho]) (fun x => ?_))
    · simp only [spec_l05Plus.l1, lenM, rdM, tI_xor, Int.toNat_natCast, setM]
      rw [if_pos (by omega), if_pos (by omega), if_pos (by omega), w64s i (by omega)]
    · rw [set_ev _ _ _ _ (by omega), hv, ev_take_succ b i (by omega), fadd_assoc]
theorem implPlus_l0 (b : List (F 4)) (N : Nat) (hN : N ≤ 1000) (hb : b.length ≤ N) (g : F 4 → F 4) : ∀ (d i : Nat) (o : List (F 4)), b.length - i = d → i ≤ b.length → o.length = N → (∀ x, ev o x = g x + ev (b.take i) x) →
    SumR N (fun x => g x + ev b x) (fun k => impl_Poly_plus.l0 k (tL o) (tL b) (b.length : Int) (i : Int)) := by
  intro d
  induction d with
  | zero =>
    intro i o hd hi ho hv
    obtain ⟨r, h1, h2, h3, e1, _⟩ := trim_ev o (by omega)
    refine ⟨r, h1, by omega, fun x => ?_, Ev.step (f := fun k => (impl_trim.f k (tL o)).bind fun t => some t) (fun k => ?_) (Ev.bind e1 (Ev.now _))⟩
    · rw [h3, hv, List.take_of_length_le (by omega)]
    · simp only [impl_Poly_plus.l0]; rw [if_neg (by omega)]
  | succ d ih =>
    intro i o hd hi ho hv
    refine SumR.step (fun k => ?_) (ih (i + 1) (o.set i (o.getD i 0 + b.getD i 0)) (by omega) (by omega) (by simp [ho]) (fun x => ?_))
    · simp only [impl_Poly_plus.l0, lenM, rdM, tI_xor, Int.toNat_natCast, setM]
      rw [if_pos (by omega), if_pos (by omega), if_pos (by omega), if_pos (by omega), w64s i (by omega)]
    · rw [set_ev _ _ _ _ (by omega), hv, ev_take_succ b i (by omega), fadd_assoc]
theorem specPlus_l0 (a b : List (F 4)) (N : Nat) (hN : N ≤ 1000) (ha : a.length ≤ N) (hb : b.length ≤ N) : ∀ (d i : Nat) (o : List (F 4)), a.length - i = d → i ≤ a.length → o.length = N → (∀ j, i ≤ j → o.getD j 0 = 0) → (∀ x, ev o x = ev (a.take i) x) →
    SumR N (fun x => ev a x + ev b x) (fun k => spec_l05Plus.l0 k (tL a) (tL b) (tL o) (i : Int)) := by
  intro d
  induction d with
  | zero =>
    intro i o hd hi ho hz hv
    refine SumR.step (fun k => ?_) (specPlus_l1 b N hN hb (fun x => ev a x) b.length 0 o (by omega) (by omega) ho (fun x => ?_))
    · simp only [spec_l05Plus.l0, lenM]; rw [if_neg (by omega)]; rfl
    · rw [hv, List.take_of_length_le (by omega), List.take_zero]; exact (fadd_zero _).symm
  | succ d ih =>
    intro i o hd hi ho hz hv
    have e0 : o.getD i 0 + a.getD i 0 = a.getD i 0 := by rw [hz i (Nat.le_refl _), fzero_add]
    refine SumR.step (fun k => ?_) (ih (i + 1) (o.set i (a.getD i 0)) (by omega) (by omega) (by simp [ho]) (fun j hj => ?_) (fun x => ?_))
    · simp only [spec_l05Plus.l0, lenM, rdM, Int.toNat_natCast, setM]
      rw [if_pos (by omega), if_pos (by omega), if_pos (by omega), w64s i (by omega)]
    · have := hz j (by omega)
      rw [List.getD_eq_getElem?_getD] at this ⊢
      rwa [List.getElem?_set_ne (by omega)]
    · rw [← e0, set_ev _ _ _ _ (by omega), hv, ev_take_succ a i (by omega)]
theorem specPlus_ev (a b : List (F 4)) (N : Nat) (hN : N ≤ 1000) (ha : a.length ≤ N) (hb : b.length ≤ N) : SumR N (fun x => ev a x + ev b x) (fun k => spec_l05Plus.f k (tL a) (tL b)) := by
  unfold spec_l05Plus.f
  have hm : spec_l00Max.f (((tL a).length : Nat) : Int) (((tL b).length : Nat) : Int) = some ((max a.length b.length : Nat) : Int) := by
    unfold spec_l00Max.f
    rw [lenM, lenM]
    split
    · congr 1; omega
    · congr 1; omega
  rw [hm]
  simp only [Option.bind_some, Int.toNat_natCast]
  refine SumR.pos (by omega) (SumR.pos (by omega) ?_)
  obtain ⟨r, h1, h2, h3, h4⟩ := specPlus_l0 a b (max a.length b.length) (by omega) (by omega) (by omega) a.length 0 (List.replicate (max a.length b.length) 0) (by omega) (by omega) (by simp) (fun j _ => by simp [List.getD_eq_getElem?_getD, List.getElem?_replicate]; split <;> rfl) (fun x => by rw [ev_replicate, List.take_zero]; rfl)
  rw [← replM] at h4
  exact ⟨r, h1, by omega, h3, h4⟩
theorem implPlus_ev (a b : List (F 4)) (N : Nat) (hN : N ≤ 1000) (ha : a.length ≤ N) (hb : b.length ≤ N) : SumR N (fun x => ev a x + ev b x) (fun k => impl_Poly_plus.f k (tL a) (tL b)) := by
  unfold impl_Poly_plus.f
  have hm : mx (((tL a).length : Nat) : Int) (((tL b).length : Nat) : Int) = ((max a.length b.length : Nat) : Int) := by
    unfold mx
    rw [lenM, lenM]
    split <;> omega
  rw [hm]
  simp only [Option.bind_some, Int.toNat_natCast]
  refine SumR.pos (by omega) (SumR.pos (by omega) ?_)
  have ht : (tL a).take (min (tL a).length (List.replicate (max a.length b.length) (0 : Int)).length) ++ (List.replicate (max a.length b.length) (0 : Int)).drop (min (tL a).length (List.replicate (max a.length b.length) (0 : Int)).length) = tL (a ++ List.replicate (max a.length b.length - a.length) 0) := by
    rw [List.length_replicate, lenM, show min a.length (max a.length b.length) = a.length by omega, List.take_of_length_le (by rw [lenM]; exact Nat.le_refl _), List.drop_replicate]
    simp [tL, tI_zero]
  rw [ht, lenM]
  obtain ⟨r, h1, h2, h3, h4⟩ := implPlus_l0 b (max a.length b.length) (by omega) (by omega) (fun x => ev a x) b.length 0 (a ++ List.replicate (max a.length b.length - a.length) 0) (by omega) (by omega) (by simp; omega) (fun x => by rw [ev_append, ev_replicate, fmul_zero, List.take_zero]; rfl)
  exact ⟨r, h1, by omega, h3, h4⟩
def MulR (N : Nat) (g : F 4 → F 4) (f : Nat → Option (List Int)) : Prop := ∃ r : List (F 4), r.length ≤ N ∧ (∀ x, ev r x = g x) ∧ Ev f (tL r)
theorem MulR.congr {N : Nat} {g : F 4 → F 4} {f f' : Nat → Option (List Int)} (h : ∀ k, f k = f' k) (s : MulR N g f') : MulR N g f := by
  rwa [show f = f' from funext h]
theorem MulR.pos {N : Nat} {g : F 4 → F 4} {c : Prop} [Decidable c] {f f' : Nat → Option (List Int)} (h : c) (s : MulR N g f) : MulR N g (fun k => if c then f k else f' k) := MulR.congr (fun _ => if_pos h) s
theorem MulR.neg {N : Nat} {g : F 4 → F 4} {c : Prop} [Decidable c] {f f' : Nat → Option (List Int)} (h : ¬ c) (s : MulR N g f') : MulR N g (fun k => if c then f k else f' k) := MulR.congr (fun _ => if_neg h) s
theorem MulR.step {N : Nat} {g : F 4 → F 4} {f f' : Nat → Option (List Int)} (h : ∀ k, f (k + 1) = f' k) (s : MulR N g f') : MulR N g f := by
  obtain ⟨r, h1, h2, h3⟩ := s
  exact ⟨r, h1, h2, Ev.step h h3⟩
theorem mul_term (G A a c x : F 4) (i j : Nat) : G + fpow x i * (a * A) + a * c * fpow x (i + j) = G + fpow x i * (a * (A + c * fpow x j)) := by
  rw [fpow_add, fmul_add, fmul_add, fadd_assoc]
  congr 2
  simp only [fmul_assoc, fmul_comm, fmul_left_comm]
theorem w64a (i j : Nat) (h : i ≤ 1000) (h2 : j ≤ 1000) : wrap64 ((i : Int) + (j : Int)) = ((i + j : Nat) : Int) := by rw [p_w64 (by omega) (by omega)]; rfl
theorem specTimes_l1 (a b : List (F 4)) (N : Nat) (hN : N ≤ 1000) (hab : a.length + b.length = N + 1) (ha : a.length ≤ 500) (hb : b.length ≤ 500) (i : Nat) (hi : i < a.length) (G : F 4 → F 4) (R : F 4 → F 4)
    (hnext : ∀ o : List (F 4), o.length = N → (∀ x, ev o x = G x + fpow x i * (a.getD i 0 * ev b x)) → MulR N R (fun k => spec_l05Times.l0 k (tL a) (tL b) (tL o) ((i + 1 : Nat) : Int))) :
    ∀ (d j : Nat) (o : List (F 4)), b.length - j = d → j ≤ b.length → o.length = N → (∀ x, ev o x = G x + fpow x i * (a.getD i 0 * ev (b.take j) x)) → MulR N R (fun k => spec_l05Times.l1 k (tL a) (tL b) (tL o) (i : Int) (j : Int)) := by
  intro d
  induction d with
  | zero =>
    intro j o hd hj ho hv
    refine MulR.step (fun k => ?_) (hnext o ho (fun x => by rw [hv, List.take_of_length_le (by omega)]))
    simp only [spec_l05Times.l1, lenM]
    rw [if_neg (by omega), w64s i (by omega)]
  | succ d ih =>
    intro j o hd hj ho hv
    refine MulR.step (fun k => ?_) (ih (j + 1) (o.set (i + j) (o.getD (i + j) 0 + a.getD i 0 * b.getD j 0)) (by omega) (by omega) (by simp [ho]) (fun x => ?_))
    · simp only [spec_l05Times.l1, lenM, w64a i j (by omega) (by omega), rdM, times_spec, Option.bind_some, tI_xor, Int.toNat_natCast, setM]
      rw [if_pos (by omega), if_pos (by omega), if_pos (by omega), if_pos (by omega), if_pos (by omega), if_pos (by omega), w64s j (by omega)]
    · rw [set_ev _ _ _ _ (by omega), hv, ev_take_succ b j (by omega), mul_term]
theorem specTimes_l0 (a b : List (F 4)) (N : Nat) (hN : N ≤ 1000) (hab : a.length + b.length = N + 1) (ha : a.length ≤ 500) (hb : b.length ≤ 500) : ∀ (d i : Nat) (o : List (F 4)), a.length - i = d → i ≤ a.length → o.length = N → (∀ x, ev o x = ev (a.take i) x * ev b x) →
    MulR N (fun x => ev a x * ev b x) (fun k => spec_l05Times.l0 k (tL a) (tL b) (tL o) (i : Int)) := by
  intro d
  induction d with
  | zero =>
    intro i o hd hi ho hv
    refine ⟨o, by omega, fun x => by rw [hv, List.take_of_length_le (by omega)], Ev.step (f := fun _ => some (tL o)) (fun k => ?_) (Ev.now _)⟩
    simp only [spec_l05Times.l0, lenM]
    rw [if_neg (by omega)]
  | succ d ih =>
    intro i o hd hi ho hv
    refine MulR.step (fun k => ?_) (specTimes_l1 a b N hN hab ha hb i (by omega) (fun x => ev (a.take i) x * ev b x) _ (fun o' ho' hv' => ih (i + 1) o' (by omega) (by omega) ho' (fun x => ?_)) b.length 0 o (by omega) (by omega) ho (fun x => ?_))
    · simp only [spec_l05Times.l0, lenM]
      rw [if_pos (by omega)]
      rfl
    · rw [hv', ev_take_succ a i (by omega), fadd_mul]
      congr 1
      simp only [fmul_assoc, fmul_comm, fmul_left_comm]
    · rw [hv, List.take_zero]
      show _ = _ + fpow x i * (a.getD i 0 * 0)
      rw [fmul_zero, fmul_zero, fadd_zero]
theorem specTimes_ev (a b : List (F 4)) (ha : a.length ≤ 500) (hb : b.length ≤ 500) : MulR (a.length + b.length - 1) (fun x => ev a x * ev b x) (fun k => spec_l05Times.f k (tL a) (tL b)) := by
  unfold spec_l05Times.f
  have none_ : (a.length = 0 ∨ b.length = 0) → MulR (a.length + b.length - 1) (fun x => ev a x * ev b x) (fun k => spec_l05Times.j0 k (tL a) (tL b) true) := fun h => by
    refine ⟨[], by simp, fun x => ?_, Ev.step (f := fun _ => some []) (fun k => by simp only [spec_l05Times.j0, if_true]) (Ev.now _)⟩
    rcases h with h | h
    · rw [List.eq_nil_of_length_eq_zero h]; show (0 : F 4) = 0 * _; rw [fzero_mul]
    · rw [List.eq_nil_of_length_eq_zero h]; show (0 : F 4) = _ * 0; rw [fmul_zero]
  rw [lenM, lenM]
  by_cases h1 : a.length = 0
  · refine MulR.pos (by omega) ?_
    exact none_ (.inl h1)
  · refine MulR.neg (by omega) ?_
    by_cases h2 : b.length = 0
    · rw [show (((b.length : Nat) : Int) == 0) = true by rw [h2]; rfl]
      exact none_ (.inr h2)
    · rw [show (((b.length : Nat) : Int) == 0) = false by simpa using h2]
      have := specTimes_l0 a b (a.length + b.length - 1) (by omega) (by omega) ha hb a.length 0 (List.replicate (a.length + b.length - 1) 0) (by omega) (by omega) (by simp) (fun x => by rw [ev_replicate, List.take_zero]; show (0 : F 4) = 0 * _; rw [fzero_mul])
      refine MulR.step (fun k => ?_) this
      simp only [spec_l05Times.j0, lenM, w64a a.length b.length (by omega) (by omega), Bool.false_eq_true, if_false]
      rw [show wrap64 (((a.length + b.length : Nat) : Int) - 1) = ((a.length + b.length - 1 : Nat) : Int) by rw [p_w64 (by omega) (by omega)]; omega, if_pos (by omega), Int.toNat_natCast, if_pos (by omega), replM]
      rfl
theorem implTimes_l1 (a b : List (F 4)) (N : Nat) (hN : N ≤ 1000) (hab : a.length + b.length = N + 1) (ha : a.length ≤ 500) (hb : b.length ≤ 500) (i : Nat) (hi : i < a.length) (G : F 4 → F 4) (R : F 4 → F 4)
    (hnext : ∀ o : List (F 4), o.length = N → (∀ x, ev o x = G x + fpow x i * (a.getD i 0 * ev b x)) → SumR N R (fun k => impl_Poly_times.l0 k (tL b) (tL o) (tL a) (a.length : Int) ((i + 1 : Nat) : Int))) :
    ∀ (d j : Nat) (o : List (F 4)), b.length - j = d → j ≤ b.length → o.length = N → (∀ x, ev o x = G x + fpow x i * (a.getD i 0 * ev (b.take j) x)) → SumR N R (fun k => impl_Poly_times.l1 k (tL b) (tL o) (i : Int) (tI (a.getD i 0)) (tL a) (a.length : Int) (i : Int) (tL b) (b.length : Int) (j : Int)) := by
  intro d
  induction d with
  | zero =>
    intro j o hd hj ho hv
    refine SumR.step (fun k => ?_) (hnext o ho (fun x => by rw [hv, List.take_of_length_le (by omega)]))
    simp only [impl_Poly_times.l1]
    rw [if_neg (by omega), w64s i (by omega)]
  | succ d ih =>
    intro j o hd hj ho hv
    obtain ⟨r, h1, h2, h3, h4⟩ := ih (j + 1) (o.set (i + j) (o.getD (i + j) 0 + a.getD i 0 * b.getD j 0)) (by omega) (by omega) (by simp [ho]) (fun x => by rw [set_ev _ _ _ _ (by omega), hv, ev_take_succ b j (by omega), mul_term])
    refine ⟨r, h1, h2, h3, Ev.step (f := fun k => (impl_times.f k (tI (a.getD i 0)) (tI (b.getD j 0))).bind fun t => impl_Poly_times.l1 k (tL b) ((tL o).set (i + j) (Go.bits .xor .u16 (tI (o.getD (i + j) 0)) t)) (i : Int) (tI (a.getD i 0)) (tL a) (a.length : Int) (i : Int) (tL b) (b.length : Int) ((j + 1 : Nat) : Int)) (fun k => ?_) (Ev.bind (times_evF _ _) ?_)⟩
    · simp only [impl_Poly_times.l1, lenM, w64a i j (by omega) (by omega), rdM, Int.toNat_natCast]
      rw [if_pos (by omega), if_pos (by omega), if_pos (by omega), if_pos (by omega), if_pos (by omega), w64s j (by omega)]
    · simp only [tI_xor, setM]
      exact h4
theorem implTimes_l0 (a b : List (F 4)) (N : Nat) (hN : N ≤ 1000) (hab : a.length + b.length = N + 1) (ha : a.length ≤ 500) (hb : b.length ≤ 500) : ∀ (d i : Nat) (o : List (F 4)), a.length - i = d → i ≤ a.length → o.length = N → (∀ x, ev o x = ev (a.take i) x * ev b x) →
    SumR N (fun x => ev a x * ev b x) (fun k => impl_Poly_times.l0 k (tL b) (tL o) (tL a) (a.length : Int) (i : Int)) := by
  intro d
  induction d with
  | zero =>
    intro i o hd hi ho hv
    obtain ⟨r, h1, h2, h3, e1, _⟩ := trim_ev o (by omega)
    refine ⟨r, h1, by omega, fun x => by rw [h3, hv, List.take_of_length_le (by omega)], Ev.step (f := fun k => (impl_trim.f k (tL o)).bind fun t => some t) (fun k => ?_) (Ev.bind e1 (Ev.now _))⟩
    simp only [impl_Poly_times.l0]
    rw [if_neg (by omega)]
  | succ d ih =>
    intro i o hd hi ho hv
    refine SumR.step (fun k => ?_) (implTimes_l1 a b N hN hab ha hb i (by omega) (fun x => ev (a.take i) x * ev b x) _ (fun o' ho' hv' => ih (i + 1) o' (by omega) (by omega) ho' (fun x => ?_)) b.length 0 o (by omega) (by omega) ho (fun x => ?_))
    · simp only [impl_Poly_times.l0, lenM, rdM]
      rw [if_pos (by omega), if_pos (by omega), if_pos (by omega)]
      rfl
    · rw [hv', ev_take_succ a i (by omega), fadd_mul]
      congr 1
      simp only [fmul_assoc, fmul_comm, fmul_left_comm]
    · rw [hv, List.take_zero]
      show _ = _ + fpow x i * (a.getD i 0 * 0)
      rw [fmul_zero, fmul_zero, fadd_zero]
theorem implTimes_ev (a b : List (F 4)) (ha : a.length ≤ 500) (hb : b.length ≤ 500) : SumR (a.length + b.length - 1) (fun x => ev a x * ev b x) (fun k => impl_Poly_times.f k (tL a) (tL b)) := by
  unfold impl_Poly_times.f
  have none_ : (a.length = 0 ∨ b.length = 0) → SumR (a.length + b.length - 1) (fun x => ev a x * ev b x) (fun k => impl_Poly_times.j0 k (tL a) (tL b) true) := fun h => by
    refine ⟨[], fun h => absurd h (by simp), by simp, fun x => ?_, Ev.step (f := fun _ => some []) (fun k => by simp only [impl_Poly_times.j0, if_true]) (Ev.now _)⟩
    rcases h with h | h
    · rw [List.eq_nil_of_length_eq_zero h]; show (0 : F 4) = 0 * _; rw [fzero_mul]
    · rw [List.eq_nil_of_length_eq_zero h]; show (0 : F 4) = _ * 0; rw [fmul_zero]
  rw [lenM, lenM]
  by_cases h1 : a.length = 0
  · refine SumR.pos (by omega) ?_
    exact none_ (.inl h1)
  · refine SumR.neg (by omega) ?_
    by_cases h2 : b.length = 0
    · rw [show (((b.length : Nat) : Int) == 0) = true by rw [h2]; rfl]
      exact none_ (.inr h2)
    · rw [show (((b.length : Nat) : Int) == 0) = false by simpa using h2]
      have := implTimes_l0 a b (a.length + b.length - 1) (by omega) (by omega) ha hb a.length 0 (List.replicate (a.length + b.length - 1) 0) (by omega) (by omega) (by simp) (fun x => by rw [ev_replicate, List.take_zero]; show (0 : F 4) = 0 * _; rw [fzero_mul])
      refine SumR.step (fun k => ?_) this
      simp only [impl_Poly_times.j0, lenM, w64a a.length b.length (by omega) (by omega), Bool.false_eq_true, if_false]
      rw [show wrap64 (((a.length + b.length : Nat) : Int) - 1) = ((a.length + b.length - 1 : Nat) : Int) by rw [p_w64 (by omega) (by omega)]; omega, if_pos (by omega), Int.toNat_natCast, if_pos (by omega), replM]
      rfl
theorem at_l0 (p : List (F 4)) (hl : p.length ≤ 1000) (x : F 4) : ∀ m : Nat, m ≤ p.length → Ev (fun k => impl_Poly_at.l0 k (tL p) (tI x) (tI (ev (p.drop m) x)) ((m : Int) - 1)) (tI (ev p x))
  | 0, _ => by
    refine Ev.step (f := fun _ => some (tI (ev (p.drop 0) x))) (fun k => ?_) (Ev.now _)
    simp only [impl_Poly_at.l0]
    rw [if_neg (by omega)]
  | m + 1, h => by
    have ih := at_l0 p hl x m (by omega)
    rw [ev_horner p m (by omega), ← tI_xor] at ih
    refine Ev.step (f := fun k => (impl_times.f k (tI (ev (p.drop (m + 1)) x)) (tI x)).bind fun t => impl_Poly_at.l0 k (tL p) (tI x) (Go.bits .xor .u16 t (tI (p.getD m 0))) ((m : Int) - 1)) (fun k => ?_) (Ev.bind (times_evF _ _) ih)
    simp only [impl_Poly_at.l0, lenM]
    have hw : wrap64 ((m : Int) - 1) = (m : Int) - 1 := p_w64 (by omega) (by omega)
    have c1 : (0 : Int) ≤ (m : Int) := by omega
    have c2 : (m : Int) < (p.length : Int) := by omega
    rw [show ((m + 1 : Nat) : Int) - 1 = (m : Int) by omega, if_pos (by omega)]
    simp only [c1, c2, if_true, rdM, hw]
theorem at_ev (p : List (F 4)) (hl : p.length ≤ 1000) (x : F 4) : Ev (fun k => impl_Poly_at.f k (tL p) (tI x)) (tI (ev p x)) := by
  unfold impl_Poly_at.f
  have := at_l0 p hl x p.length (Nat.le_refl _)
  rw [List.drop_length] at this
  rw [lenM, p_w64 (by omega) (by omega)]
  rw [show tI (ev ([] : List (F 4)) x) = 0 from tI_zero] at this
  exact this
theorem implScale_ev (p : List (F 4)) (c : F 4) (hl : p.length ≤ 500) : SumR p.length (fun x => ev p x * c) (fun k => impl_Poly_scale.f k (tL p) (tI c)) := by
  unfold impl_Poly_scale.f
  obtain ⟨r, h1, h2, h3, h4⟩ := implTimes_ev p [c] hl (by simp)
  refine ⟨r, h1, by simpa using h2, fun x => ?_, Ev.bind h4 (Ev.now _)⟩
  rw [h3]
  show ev p x * (c + x * 0) = _
  rw [fmul_zero, fadd_zero]
theorem specScale_ev (p : List (F 4)) (c : F 4) (hl : p.length ≤ 500) : MulR p.length (fun x => ev p x * c) (fun k => spec_l05Scale.f k (tL p) (tI c)) := by
  unfold spec_l05Scale.f
  obtain ⟨t, _, t2, t3, _, t4⟩ := trim_ev [c] (by simp)
  have t2' : t.length ≤ 1 := by simpa using t2
  obtain ⟨r, h1, h2, h3⟩ := specTimes_ev p t hl (by omega)
  refine ⟨r, by omega, fun x => ?_, Ev.bind t4 (Ev.bind h3 (Ev.now _))⟩
  rw [h2]
  show ev p x * ev t x = _
  rw [t3]
  show ev p x * (c + x * 0) = _
  rw [fmul_zero, fadd_zero]
end Go.Proofs.Ytadfobooofkelaa.X

namespace Go.Proofs.Ytadfobooofkelaa.X
open Go.RowKit Go.Proofs.YtadfobooofkelaaW.PrintWords Go.Proofs.YtadfobooofkelaaW.PrintLast Go.Proofs.YtadfobooofkelaaW.PrintMore Go.Proofs.Ytadfobooofkelaa.Nim
set_option linter.unusedSimpArgs false
set_option linter.unusedVariables false
set_option linter.unusedSectionVars false
theorem anyO_total {α : Type} (p : α → Option Bool) (q : α → Bool) (h : ∀ x, p x = some (q x)) : ∀ l : List α, anyO p l = some (l.any q)
  | [] => rfl
  | x :: l => by
    simp only [anyO, h, Option.bind_some, List.any_cons]
    cases q x with
    | true => rfl
    | false => simpa using anyO_total p q h l
abbrev PR := List Int × Int
section
variable (l : List S67) (X Y : Nat → F 4)
variable (hn : l.length ≤ 20) (hX : ∀ j, j < l.length → (rd_T67 l (j : Int)).f0 = tI (X j)) (hY : ∀ j, j < l.length → (rd_T67 l (j : Int)).f1 = tI (Y j))
variable (hd : ∀ i j, i < l.length → j < l.length → i ≠ j → X i ≠ X j)
include hn hX hY hd
theorem sum_ne {i j : Nat} (hi : i < l.length) (hj : j < l.length) (hij : i ≠ j) : X i + X j ≠ 0 := fun h => hd i j hi hj hij (feq_of_add h)
theorem spec_l3 (i : Nat) (hi : i < l.length) (o : List (F 4)) (R : PR) (hnext : ∀ (p : List (F 4)) (w : F 4), p.length ≤ l.length → w = ev p (X i) → w ≠ 0 → (∀ j, j < l.length → j ≠ i → ev p (X j) = 0) → Ev (fun k => spec_PolyThrough.l3 k l (tL o) (i : Int) (tL p) (tI w) (l.length : Int)) R) :
    ∀ (d m : Nat) (p : List (F 4)) (w : F 4), l.length - m = d → m ≤ l.length → p.length ≤ m + (if i < m then 0 else 1) → w = ev p (X i) → w ≠ 0 → (∀ j, j < m → j ≠ i → ev p (X j) = 0) → Ev (fun k => spec_PolyThrough.l3 k l (tL o) (i : Int) (tL p) (tI w) (m : Int)) R := by
  intro d
  induction d with
  | zero =>
    intro m p w hdm hm hp hw h0 hz
    have e : m = l.length := by omega
    subst e
    rw [if_pos hi] at hp
    exact hnext p w (by omega) hw h0 hz
  | succ d ih =>
    intro m p w hdm hm hp hw h0 hz
    have hwm : wrap64 ((m : Int) + 1) = ((m + 1 : Nat) : Int) := w64s m (by omega)
    by_cases hmi : m = i
    · subst hmi
      refine Ev.step (fun k => ?_) (ih (m + 1) p w (by omega) (by omega) ?_ hw h0 (fun j hj hji => hz j (by omega) hji))
      · simp only [spec_PolyThrough.l3]
        rw [if_pos (by omega), if_pos trivial, hwm]
      · rw [if_neg (Nat.lt_irrefl m)] at hp
        rw [if_pos (Nat.lt_succ_self m)]
        omega
    · obtain ⟨r, r1, r2, r3⟩ := specTimes_ev p [X m, 1] (by split at hp <;> omega) (by simp)
      have hne : X i + X m ≠ 0 := sum_ne l X Y hn hX hY hd hi (by omega) (fun h => hmi h.symm)
      have hev : ∀ x, ev r x = ev p x * (X m + x) := fun x => by
        rw [r2]
        show ev p x * (X m + x * (1 + x * 0)) = _
        rw [fmul_zero, fadd_zero, fmul_one]
      have hw' : w * (X i + X m) = ev r (X i) := by rw [hev, hw, fadd_comm (X m)]
      have r1' : r.length ≤ p.length + 2 - 1 := r1
      refine Ev.step (f := fun k => (spec_l05Times.f k (tL p) (tL [X m, 1])).bind fun t119 => (spec_l01Times.f (tI w) (tI (X i + X m))).bind fun t124 => spec_PolyThrough.l3 k l (tL o) (i : Int) t119 t124 ((m + 1 : Nat) : Int)) (fun k => ?_) (Ev.bind r3 (ev_some (times_spec w (X i + X m)) (ih (m + 1) r (w * (X i + X m)) (by omega) (by omega) ?_ hw' ?_ ?_)))
      · simp only [spec_PolyThrough.l3]
        have c1 : (0 : Int) ≤ (i : Int) := by omega
        have c2 : (i : Int) < (l.length : Int) := by omega
        rw [if_pos (by omega), if_neg (by omega), if_pos (by omega), hX m (by omega), hX i hi]
        simp only [c1, c2, if_true, tI_xor, hwm]
        rw [show [tI (X m), 1] = tL [X m, 1] by simp [tL, tI_one]]
      · by_cases him : i < m
        · rw [if_pos him] at hp
          rw [if_pos (by omega)]
          omega
        · rw [if_neg him] at hp
          rw [if_neg (by omega)]
          omega
      · exact fun h => hne (fmul_eq_zero h0 h)
      · intro j hj hji
        rw [hev]
        by_cases hjm : j = m
        · subst hjm; rw [fadd_self, fmul_zero]
        · rw [hz j (by omega) hji, fzero_mul]
theorem spec_l2 (R : List (F 4)) (hR : Trimmed R) (hRl : R.length ≤ l.length) (hRv : ∀ j, j < l.length → ev R (X j) = Y j) : ∀ (d i : Nat) (o : List (F 4)), l.length - i = d → i ≤ l.length → Trimmed o → o.length ≤ l.length → (∀ j, j < l.length → ev o (X j) = if j < i then Y j else 0) →
    Ev (fun k => spec_PolyThrough.l2 k l (tL o) (i : Int)) (tL R, 0) := by
  intro d
  induction d with
  | zero =>
    intro i o hdi hi ht hl hv
    have e : o = R := by
      refine poly_unique ((List.range l.length).map X) o R ?_ ht hR (by simpa using hl) (by simpa using hRl) (fun x hx => ?_)
      · rw [List.nodup_iff_pairwise_ne, List.pairwise_map]
        refine List.Pairwise.imp_of_mem ?_ (List.nodup_iff_pairwise_ne.1 List.nodup_range)
        intro a b ha hb hab
        exact hd a b (List.mem_range.1 ha) (List.mem_range.1 hb) hab
      · obtain ⟨j, hj, rfl⟩ := List.mem_map.1 hx
        have hj' := List.mem_range.1 hj
        rw [hv j hj', hRv j hj', if_pos (by omega)]
    subst e
    refine Ev.step (f := fun _ => some (tL o, 0)) (fun k => ?_) (Ev.now _)
    simp only [spec_PolyThrough.l2]
    rw [if_neg (by omega)]
  | succ d ih =>
    intro i o hdi hi ht hl hv
    have hiL : i < l.length := by omega
    have hone : tL [1] = [1] := by simp [tL, tI_one]
    have main := spec_l3 l X Y hn hX hY hd i hiL o (tL R, 0) (fun p w hp hw h0 hz => ?_) l.length 0 [1] 1 (by omega) (by omega) (by simp) (by show (1 : F 4) = 1 + X i * 0; rw [fmul_zero, fadd_zero]) (fone_ne 4) (fun j hj => by omega)
    · refine Ev.step (fun k => ?_) main
      simp only [spec_PolyThrough.l2]
      rw [if_pos (by omega), hone, tI_one]
      rfl
    · obtain ⟨s, s1, s2, s3⟩ := specScale_ev p (Y i * finvF w) (by omega)
      obtain ⟨q, q1, q2, q3, q4⟩ := specPlus_ev o s l.length (by omega) hl (by omega)
      replace s2 : ∀ x, ev s x = ev p x * (Y i * finvF w) := s2
      replace q3 : ∀ x, ev q x = ev o x + ev s x := q3
      have hnx := ih (i + 1) q (by omega) (by omega) q1 q2 (fun j hj => ?_)
      · refine Ev.step (f := fun k => (spec_l01Inverse.f k (tI w)).bind fun t126 => (spec_l01Times.f (tI (Y i)) t126).bind fun t127 => (spec_l05Scale.f k (tL p) t127).bind fun t128 => (spec_l05Plus.f k (tL o) t128).bind fun t131 => spec_PolyThrough.l2 k l t131 ((i + 1 : Nat) : Int)) (fun k => ?_) (Ev.bind (specInv_ev w) (ev_some (times_spec (Y i) (finvF w)) (Ev.bind s3 (Ev.bind q4 hnx))))
        simp only [spec_PolyThrough.l3]
        rw [if_neg (by omega), if_pos (by omega), if_pos (by omega), hY i hiL, w64s i (by omega)]
      · rw [q3, hv j hj, s2]
        by_cases hji : j = i
        · subst hji
          rw [if_neg (Nat.lt_irrefl j), if_pos (Nat.lt_succ_self j), fzero_add, ← hw, fmul_left_comm, finvF_mul h0, fmul_one]
        · rw [hz j hj hji, fzero_mul, fadd_zero]
          by_cases h1 : j < i
          · rw [if_pos h1, if_pos (by omega)]
          · rw [if_neg h1, if_neg (by omega)]
theorem impl_l1 : ∀ (d i : Nat) (o b : List (F 4)), l.length - i = d → i ≤ l.length → Trimmed o → o.length ≤ i → b.length ≤ i + 1 → (∀ j, j < i → ev o (X j) = Y j) → (∀ j, j < i → ev b (X j) = 0) → (∀ j, i ≤ j → j < l.length → ev b (X j) ≠ 0) →
    ∃ R : List (F 4), Trimmed R ∧ R.length ≤ l.length ∧ (∀ j, j < l.length → ev R (X j) = Y j) ∧ Ev (fun k => impl_PolyThrough.l1 k (tL o) (tL b) l (l.length : Int) (i : Int)) (tL R, 0) := by
  intro d
  induction d with
  | zero =>
    intro i o b hdi hi ht hl hb hv hz hnz
    have e : i = l.length := by omega
    subst e
    refine ⟨o, ht, hl, hv, Ev.step (f := fun _ => some (tL o, 0)) (fun k => ?_) (Ev.now _)⟩
    simp only [impl_PolyThrough.l1]
    rw [if_neg (by omega)]
  | succ d ih =>
    intro i o b hdi hi ht hl hb hv hz hnz
    have hiL : i < l.length := by omega
    obtain ⟨s, s1, s2, s3, s4⟩ := implScale_ev b ((ev o (X i) + Y i) * finvF (ev b (X i))) (by omega)
    obtain ⟨q, q1, q2, q3, q4⟩ := implPlus_ev o s (i + 1) (by omega) (by omega) (by omega)
    replace s3 : ∀ x, ev s x = ev b x * ((ev o (X i) + Y i) * finvF (ev b (X i))) := s3
    replace q3 : ∀ x, ev q x = ev o x + ev s x := q3
    obtain ⟨t, t1, t2, t3, t4⟩ := implTimes_ev b [X i, 1] (by omega) (by simp)
    have t2' : t.length ≤ b.length + 2 - 1 := t2
    have ht3 : ∀ x, ev t x = ev b x * (X i + x) := fun x => by
      rw [t3]
      show ev b x * (X i + x * (1 + x * 0)) = _
      rw [fmul_zero, fadd_zero, fmul_one]
    have hbi := hnz i (Nat.le_refl _) hiL
    have main := ih (i + 1) q t (by omega) (by omega) q1 q2 (by omega) (fun j hj => ?_) (fun j hj => ?_) (fun j hj hjl => ?_)
    · obtain ⟨R, h1, h2, h3, h4⟩ := main
      refine ⟨R, h1, h2, h3, Ev.step (f := fun k => (impl_Poly_at.f k (tL o) (tI (X i))).bind fun t116 => (impl_Poly_at.f k (tL b) (tI (X i))).bind fun t117 => (impl_inverse.f k t117).bind fun t118 => (impl_times.f k (Go.bits .xor .u16 t116 (tI (Y i))) t118).bind fun t119 => (impl_Poly_scale.f k (tL b) t119).bind fun t120 => (impl_Poly_plus.f k (tL o) t120).bind fun t123 => (impl_Poly_times.f k (tL b) (tL [X i, 1])).bind fun t129 => impl_PolyThrough.l1 k t123 t129 l (l.length : Int) ((i + 1 : Nat) : Int)) (fun k => ?_) (Ev.bind (at_ev o (by omega) (X i)) (Ev.bind (at_ev b (by omega) (X i)) (Ev.bind (implInv_ev (ev b (X i))) (Ev.bind (a := tI ((ev o (X i) + Y i) * finvF (ev b (X i)))) ?_ (Ev.bind s4 (Ev.bind q4 (Ev.bind t4 h4)))))))⟩
      · simp only [impl_PolyThrough.l1]
        rw [if_pos (by omega), if_pos (by omega), if_pos (by omega), hX i hiL, hY i hiL, w64s i (by omega), show [tI (X i), 1] = tL [X i, 1] by simp [tL, tI_one]]
      · rw [tI_xor]
        exact times_evF _ _
    · rw [q3, s3]
      by_cases hji : j = i
      · subst hji
        have e : ev b (X j) * ((ev o (X j) + Y j) * finvF (ev b (X j))) = ev o (X j) + Y j := by rw [fmul_left_comm, finvF_mul hbi, fmul_one]
        rw [e, fadd_cancel]
      · rw [hz j (by omega), fzero_mul, fadd_zero, hv j (by omega)]
    · rw [ht3]
      by_cases hji : j = i
      · subst hji; rw [fadd_self, fmul_zero]
      · rw [hz j (by omega), fzero_mul]
    · rw [ht3]
      exact fun h => sum_ne l X Y hn hX hY hd hiL hjl (by omega) (fmul_eq_zero (hnz j (by omega) hjl) h)
theorem apart_ev : ∃ R : PR, R.1.length ≤ 1000 ∧ Ev (fun k => spec_PolyThrough.l2 k l [] 0) R ∧ Ev (fun k => impl_PolyThrough.l1 k [] [1] l (l.length : Int) 0) R := by
  have hone : tL [1] = [1] := by simp [tL, tI_one]
  obtain ⟨R, h1, h2, h3, h4⟩ := impl_l1 l X Y hn hX hY hd l.length 0 [] [1] (by omega) (by omega) (fun h => absurd h (by simp)) (by simp) (by simp) (fun j hj => by omega) (fun j hj => by omega) (fun j _ _ => by
    show (1 : F 4) + X j * 0 ≠ 0
    rw [fmul_zero, fadd_zero]; exact fone_ne 4)
  have h5 := spec_l2 l X Y hn hX hY hd R h1 h2 h3 l.length 0 [] (by omega) (by omega) (fun h => absurd h (by simp)) (by simp) (fun j hj => by rw [if_neg (by omega)]; rfl)
  rw [hone] at h4
  exact ⟨(tL R, 0), by simp only [lenM]; omega, h5, h4⟩
end
theorem dup_l1 (l : List S67) (hn : l.length ≤ 20) (i : Nat) (hi : i < l.length) : ∀ (d m : Nat), i - m = d → m ≤ i → (∃ k, m ≤ k ∧ k < i ∧ (rd_T67 l (k : Int)).f0 = (rd_T67 l (i : Int)).f0) → Ev (fun k => spec_PolyThrough.l1 k l (i : Int) (m : Int)) (([], 4) : PR) := by
  intro d
  induction d with
  | zero => rintro m hd hm ⟨k, h1, h2, _⟩; omega
  | succ d ih =>
    rintro m hd hm ⟨k, h1, h2, h3⟩
    by_cases h : (rd_T67 l (m : Int)).f0 = (rd_T67 l (i : Int)).f0
    · refine Ev.step (f := fun _ => some ([], 4)) (fun k => ?_) (Ev.now _)
      simp only [spec_PolyThrough.l1]
      rw [if_pos (by omega), if_pos (by omega), if_pos (by omega), if_pos (by omega), if_pos (by omega), if_pos h]
    · have hkm : k ≠ m := fun e => h (e ▸ h3)
      refine Ev.step (fun k => ?_) (ih (m + 1) (by omega) (by omega) ⟨k, by omega, h2, h3⟩)
      simp only [spec_PolyThrough.l1]
      rw [if_pos (by omega), if_pos (by omega), if_pos (by omega), if_pos (by omega), if_pos (by omega), if_neg h, w64s m (by omega)]
theorem nodup_l1 (l : List S67) (hn : l.length ≤ 20) (i : Nat) (hi : i < l.length) (R : PR) (hno : ∀ k, k < i → (rd_T67 l (k : Int)).f0 ≠ (rd_T67 l (i : Int)).f0) (hnext : Ev (fun k => spec_PolyThrough.l0 k l ((i + 1 : Nat) : Int)) R) : ∀ (d m : Nat), i - m = d → m ≤ i → Ev (fun k => spec_PolyThrough.l1 k l (i : Int) (m : Int)) R := by
  intro d
  induction d with
  | zero =>
    intro m hd hm
    refine Ev.step (fun k => ?_) hnext
    simp only [spec_PolyThrough.l1]
    rw [if_neg (by omega), w64s i (by omega)]
  | succ d ih =>
    intro m hd hm
    refine Ev.step (fun k => ?_) (ih (m + 1) (by omega) (by omega))
    simp only [spec_PolyThrough.l1]
    rw [if_pos (by omega), if_pos (by omega), if_pos (by omega), if_pos (by omega), if_pos (by omega), if_neg (hno m (by omega)), w64s m (by omega)]
theorem through_l0 (l : List S67) (hn : l.length ≤ 20) (X Y : Nat → F 4) (hX : ∀ j, j < l.length → (rd_T67 l (j : Int)).f0 = tI (X j)) (hY : ∀ j, j < l.length → (rd_T67 l (j : Int)).f1 = tI (Y j)) : ∀ (d i : Nat), l.length - i = d → i ≤ l.length → (∀ j, j < i → ∀ k, k < j → (rd_T67 l (k : Int)).f0 ≠ (rd_T67 l (j : Int)).f0) →
    ∃ R : PR, R.1.length ≤ 1000 ∧ Ev (fun k => spec_PolyThrough.l0 k l (i : Int)) R ∧ Ev (fun k => impl_PolyThrough.l0 k l l (l.length : Int) (i : Int)) R := by
  intro d
  induction d with
  | zero =>
    intro i hd hi hno
    obtain ⟨R, h0, h1, h2⟩ := apart_ev l X Y hn hX hY (fun a b ha hb hab e => by
      rcases Nat.lt_or_gt_of_ne hab with h | h
      · exact hno b (by omega) a h (by rw [hX a ha, hX b hb, e])
      · exact hno a (by omega) b h (by rw [hX a ha, hX b hb, e]))
    refine ⟨R, h0, Ev.step (fun k => ?_) h1, Ev.step (fun k => ?_) h2⟩
    · simp only [spec_PolyThrough.l0]; rw [if_neg (by omega)]
    · simp only [impl_PolyThrough.l0]; rw [if_neg (by omega)]
  | succ d ih =>
    intro i hd hi hno
    have hiL : i < l.length := by omega
    have hany : impl_Spot_88.f (l.take ((i : Int)).toNat) (fun x_ : S67 => impl_PolyThrough_1.f x_.f0 x_.f1 ((rd_T67 l (i : Int)).f0) ((rd_T67 l (i : Int)).f1)) = some ((l.take i).any fun s => s.f0 == (rd_T67 l (i : Int)).f0) := by
      unfold impl_Spot_88.f
      rw [Int.toNat_natCast]
      exact anyO_total _ _ (fun x => rfl) _
    by_cases hdup : ∃ k, k < i ∧ (rd_T67 l (k : Int)).f0 = (rd_T67 l (i : Int)).f0
    · obtain ⟨k0, hk0, hk1⟩ := hdup
      have ht : ((l.take i).any fun s => s.f0 == (rd_T67 l (i : Int)).f0) = true := by
        rw [List.any_eq_true]
        refine ⟨rd_T67 l (k0 : Int), ?_, by simpa using hk1⟩
        rw [List.mem_take_iff_getElem]
        refine ⟨k0, by omega, ?_⟩
        simp [rd_T67, List.getD_eq_getElem?_getD, show k0 < l.length by omega]
      refine ⟨([], 4), by simp, Ev.step (fun k => ?_) (dup_l1 l hn i hiL i 0 (by omega) (by omega) ⟨k0, by omega, hk0, hk1⟩), Ev.step (f := fun _ => some ([], 4)) (fun k => ?_) (Ev.now _)⟩
      · simp only [spec_PolyThrough.l0]; rw [if_pos (by omega)]; rfl
      · simp only [impl_PolyThrough.l0]
        rw [if_pos (by omega), if_pos (by omega), if_pos (by omega), if_pos (by omega), hany, ht, Option.bind_some, if_pos rfl]
    · have hno' : ∀ k, k < i → (rd_T67 l (k : Int)).f0 ≠ (rd_T67 l (i : Int)).f0 := fun k hk e => hdup ⟨k, hk, e⟩
      have hf : ((l.take i).any fun s => s.f0 == (rd_T67 l (i : Int)).f0) = false := by
        rw [Bool.eq_false_iff]
        intro ht
        rw [List.any_eq_true] at ht
        obtain ⟨s, hs, he⟩ := ht
        rw [List.mem_take_iff_getElem] at hs
        obtain ⟨k0, hk0, rfl⟩ := hs
        refine hno' k0 (by omega) ?_
        have : rd_T67 l (k0 : Int) = l[k0]'(by omega) := by simp [rd_T67, List.getD_eq_getElem?_getD, show k0 < l.length by omega]
        rw [this]
        simpa using he
      obtain ⟨R, h0, h1, h2⟩ := ih (i + 1) (by omega) (by omega) (fun j hj k hk => by
        by_cases e : j = i
        · subst e; exact hno' k hk
        · exact hno j (by omega) k hk)
      refine ⟨R, h0, Ev.step (fun k => ?_) (nodup_l1 l hn i hiL R hno' h1 i 0 (by omega) (by omega)), Ev.step (fun k => ?_) h2⟩
      · simp only [spec_PolyThrough.l0]; rw [if_pos (by omega)]; rfl
      · simp only [impl_PolyThrough.l0]
        rw [if_pos (by omega), if_pos (by omega), if_pos (by omega), if_pos (by omega), hany, hf, Option.bind_some, if_neg (by simp), w64s i (by omega)]
theorem through_ev (l : List S67) (hl : l.length ≤ 1048576) (hw : ∀ j, j < l.length → (0 ≤ (rd_T67 l (j : Int)).f0 ∧ (rd_T67 l (j : Int)).f0 < 65536) ∧ (0 ≤ (rd_T67 l (j : Int)).f1 ∧ (rd_T67 l (j : Int)).f1 < 65536)) :
    ∃ R : PR, R.1.length ≤ 1000 ∧ Ev (fun k => spec_PolyThrough.f k l) R ∧ Ev (fun k => impl_PolyThrough.f k l) R := by
  unfold spec_PolyThrough.f impl_PolyThrough.f
  by_cases hn : (l.length : Int) > 20
  · exact ⟨([], 3), by simp, p_pos hn (Ev.now _), p_pos hn (Ev.now _)⟩
  · obtain ⟨R, h0, h1, h2⟩ := through_l0 l (by omega) (fun j => fof 4 (rd_T67 l (j : Int)).f0.toNat) (fun j => fof 4 (rd_T67 l (j : Int)).f1.toNat) (fun j hj => (tI_of _ (hw j hj).1.1 (hw j hj).1.2).symm) (fun j hj => (tI_of _ (hw j hj).2.1 (hw j hj).2.2).symm) l.length 0 (by omega) (by omega) (fun j hj => by omega)
    exact ⟨R, h0, p_neg hn h1, p_neg hn h2⟩
end Go.Proofs.Ytadfobooofkelaa.X

namespace Go.Proofs.Ytadfobooofkelaa.X
open Go.RowKit Go.Proofs.YtadfobooofkelaaW.PrintWords Go.Proofs.YtadfobooofkelaaW.PrintLast Go.Proofs.YtadfobooofkelaaW.PrintMore
set_option linter.unusedSimpArgs false
set_option linter.unusedVariables false
theorem take_succ_set {α : Type} (xs : List α) (i : Nat) (v : α) (h : i < xs.length) : (xs.set i v).take (i + 1) = xs.take i ++ [v] := by
  rw [List.take_succ_eq_append_getElem (by simpa using h)]
  simp [List.take_set_of_le]
theorem take_succ_map {α β : Type} (f : α → β) (xs : List α) (i : Nat) (d : α) (h : i < xs.length) : (xs.map f).take (i + 1) = (xs.map f).take i ++ [f (xs.getD i d)] := by
  rw [List.take_succ_eq_append_getElem (by simpa using h)]
  simp [List.getD_eq_getElem?_getD, List.getElem?_eq_getElem h]
def cvS (x : S107) : S67 := ⟨x.f0, x.f1⟩
theorem toSpotS_l0 (xs : List S107) (hn : xs.length ≤ 1048576) : ∀ (d i : Nat) (ys : List S67), xs.length - i = d → i ≤ xs.length → ys.length = xs.length → ys.take i = (xs.map cvS).take i → Ev (fun k => laws_toSpotS.l0 k xs ys (i : Int)) (xs.map cvS) := by
  intro d
  induction d with
  | zero =>
    intro i ys hd hi hl ht
    have e : i = xs.length := by omega
    subst e
    have : ys = xs.map cvS := by
      rw [List.take_of_length_le (by omega), List.take_of_length_le (by simp)] at ht
      exact ht
    subst this
    exact Ev.step (f := fun _ => some (xs.map cvS)) (fun k => by simp only [laws_toSpotS.l0]; rw [if_neg (by omega)]) (Ev.now _)
  | succ d ih =>
    intro i ys hd hi hl ht
    have hlt : i < xs.length := by omega
    refine Ev.step (f := fun k => laws_toSpotS.l0 k xs (ys.set i (cvS (xs.getD i z107))) ((i + 1 : Nat) : Int)) (fun k => ?_) (ih (i + 1) _ (by omega) (by omega) (by simp [hl]) ?_)
    · simp only [laws_toSpotS.l0]
      rw [if_pos (by omega), if_pos (by omega)]
      simp only [laws_toSpot.f, Option.bind_some]
      rw [if_pos (by omega), w64s i (by omega)]
      simp [rd_T107, cvS]
    · rw [take_succ_set _ _ _ (by omega), take_succ_map _ _ _ z107 hlt, ht]
theorem toSpotS_ev (xs : List S107) (hn : xs.length ≤ 1048576) : Ev (fun k => laws_toSpotS.f k xs) (xs.map cvS) := by
  unfold laws_toSpotS.f
  refine p_pos (by omega) (p_pos (by omega) ?_)
  have := toSpotS_l0 xs hn xs.length 0 (List.replicate xs.length z67) (by omega) (by omega) (by simp) (by simp)
  simpa using this
theorem eqSpotS_l0 (xs : List S67) (hn : xs.length ≤ 1048576) : ∀ (d i : Nat), xs.length - i = d → i ≤ xs.length → Ev (fun k => laws_eqSpotS.l0 k xs xs (i : Int)) true := by
  intro d
  induction d with
  | zero =>
    intro i hd hi
    exact Ev.step (f := fun _ => some true) (fun k => by simp only [laws_eqSpotS.l0]; rw [if_neg (by omega)]) (Ev.now _)
  | succ d ih =>
    intro i hd hi
    refine Ev.step (f := fun k => laws_eqSpotS.l0 k xs xs ((i + 1 : Nat) : Int)) (fun k => ?_) (ih (i + 1) (by omega) (by omega))
    simp only [laws_eqSpotS.l0]
    rw [if_pos (by omega), if_pos (by omega), if_pos (by omega)]
    simp only [laws_eqSpot.f, if_true, Option.bind_some]
    rw [w64s i (by omega)]
theorem eqSpotS_ev (xs : List S67) (hn : xs.length ≤ 1048576) : Ev (fun k => laws_eqSpotS.f k xs xs) true := by
  unfold laws_eqSpotS.f
  exact p_pos rfl (eqSpotS_l0 xs hn _ 0 rfl (by omega))
theorem eqPoly_l0 (xs : List Int) (hn : xs.length ≤ 1048576) : ∀ (d i : Nat), xs.length - i = d → i ≤ xs.length → Ev (fun k => laws_eqPoly.l0 k xs xs (i : Int)) true := by
  intro d
  induction d with
  | zero =>
    intro i hd hi
    exact Ev.step (f := fun _ => some true) (fun k => by simp only [laws_eqPoly.l0]; rw [if_neg (by omega)]) (Ev.now _)
  | succ d ih =>
    intro i hd hi
    refine Ev.step (f := fun k => laws_eqPoly.l0 k xs xs ((i + 1 : Nat) : Int)) (fun k => ?_) (ih (i + 1) (by omega) (by omega))
    simp only [laws_eqPoly.l0]
    rw [if_pos (by omega), if_pos (by omega), if_pos (by omega)]
    simp only [if_true]
    rw [w64s i (by omega)]
theorem eqPoly_ev (xs : List Int) (hn : xs.length ≤ 1048576) : Ev (fun k => laws_eqPoly.f k xs xs) true := by
  unfold laws_eqPoly.f
  exact p_pos rfl (eqPoly_l0 xs hn _ 0 rfl (by omega))
theorem markSpotS_l0 : ∀ (d i : Nat) (c : Nat) (xs : List S67), xs.length ≤ 1048576 → c ≤ 10 + 2 * i → xs.length - i = d → i ≤ xs.length → ∃ (n : Nat) (ys : List S67), Ev (fun k => laws_markSpotS.l0 k xs (c : Int) (i : Int)) ((n : Int), ys) := by
  intro d
  induction d with
  | zero =>
    intro i c xs hn hc hd hi
    exact ⟨c, xs, Ev.step (f := fun _ => some ((c : Int), xs)) (fun k => by simp only [laws_markSpotS.l0]; rw [if_neg (by omega)]) (Ev.now _)⟩
  | succ d ih =>
    intro i c xs hn hc hd hi
    obtain ⟨n, ys, h⟩ := ih (i + 1) (c + 2) ((xs.set i ⟨IntKind.u16.wrap (c : Int), (rd_T67 xs (i : Int)).f1⟩).set i ⟨(rd_T67 (xs.set i ⟨IntKind.u16.wrap (c : Int), (rd_T67 xs (i : Int)).f1⟩) (i : Int)).f0, IntKind.u16.wrap (wrap64 ((c : Int) + 1))⟩) (by simpa using hn) (by omega) (by simp; omega) (by simp; omega)
    refine ⟨n, ys, Ev.step (fun k => ?_) h⟩
    simp only [laws_markSpotS.l0]
    rw [if_pos (by omega), if_pos (by omega)]
    simp only [Option.bind_some, Int.toNat_natCast]
    rw [w64s i (by omega), show wrap64 (wrap64 ((c : Int) + 1) + 1) = ((c + 2 : Nat) : Int) by rw [w64s c (by omega), w64s (c + 1) (by omega)]]
theorem markSpotS_ev (xs : List S67) (hn : xs.length ≤ 1048576) : ∃ (n : Nat) (ys : List S67), Ev (fun k => laws_markSpotS.f k xs 1) ((n : Int), ys) := by
  unfold laws_markSpotS.f
  exact markSpotS_l0 xs.length 0 1 xs hn (by omega) (by omega) (by omega)
def mkP (c : Int) (n : Nat) : List Int := (List.range n).map fun (i : Nat) => IntKind.u16.wrap (c + (i : Int))
theorem mkP_length (c : Int) (n : Nat) : (mkP c n).length = n := by simp [mkP]
theorem mkP_succ (c : Int) (n : Nat) : mkP c (n + 1) = mkP c n ++ [IntKind.u16.wrap (c + (n : Int))] := by simp [mkP, List.range_succ]
theorem mkP_get (c : Int) (n i : Nat) (h : i < n) : rd (mkP c n) (i : Int) = IntKind.u16.wrap (c + (i : Int)) := by
  simp [rd, mkP, List.getD_eq_getElem?_getD, h]
theorem markPoly_l0 (c : Int) (hc : 0 ≤ c) (hc2 : c ≤ 10000000) : ∀ (d i : Nat) (xs : List Int), xs.length ≤ 1048576 → xs.length - i = d → i ≤ xs.length → xs.take i = mkP c i → Ev (fun k => laws_markPoly.l0 k xs (c + (i : Int)) (i : Int)) (c + (xs.length : Int), mkP c xs.length) := by
  intro d
  induction d with
  | zero =>
    intro i xs hn hd hi ht
    have e : i = xs.length := by omega
    subst e
    rw [List.take_of_length_le (by omega)] at ht
    refine Ev.step (f := fun _ => some (c + (xs.length : Int), xs)) (fun k => by simp only [laws_markPoly.l0]; rw [if_neg (by omega)]) ?_
    rw [← ht]
    exact Ev.now _
  | succ d ih =>
    intro i xs hn hd hi ht
    have hlt : i < xs.length := by omega
    have := ih (i + 1) (xs.set i (IntKind.u16.wrap (c + (i : Int)))) (by simpa using hn) (by simp; omega) (by simp; omega) (by rw [take_succ_set _ _ _ hlt, ht, mkP_succ])
    rw [List.length_set] at this
    refine Ev.step (fun k => ?_) this
    simp only [laws_markPoly.l0]
    rw [if_pos (by omega), if_pos (by omega), p_w64 (x := c + (i : Int) + 1) (by omega) (by omega), p_w64 (x := (i : Int) + 1) (by omega) (by omega)]
    rw [show c + (i : Int) + 1 = c + ((i + 1 : Nat) : Int) from by omega]
    rfl
theorem markPoly_ev (xs : List Int) (hn : xs.length ≤ 1048576) : Ev (fun k => laws_markPoly.f k xs 1) (1 + (xs.length : Int), mkP 1 xs.length) := by
  have := markPoly_l0 1 (by omega) (by omega) xs.length 0 xs hn (by omega) (by omega) (by simp [mkP])
  simpa [laws_markPoly.f] using this
theorem heldPoly_l0 (c : Int) (hc : 0 ≤ c) (hc2 : c ≤ 10000000) (n : Nat) (hn : n ≤ 1048576) : ∀ (d i : Nat), n - i = d → i ≤ n → Ev (fun k => laws_heldPoly.l0 k (mkP c n) (c + (i : Int)) (i : Int)) (c + (n : Int)) := by
  intro d
  induction d with
  | zero =>
    intro i hd hi
    have e : i = n := by omega
    subst e
    exact Ev.step (f := fun _ => some (c + (i : Int))) (fun k => by simp only [laws_heldPoly.l0]; rw [mkP_length, if_neg (by omega)]) (Ev.now _)
  | succ d ih =>
    intro i hd hi
    refine Ev.step (fun k => ?_) (ih (i + 1) (by omega) (by omega))
    simp only [laws_heldPoly.l0]
    rw [mkP_length, if_pos (by omega), if_pos (by omega), mkP_get c n i (by omega), if_pos rfl, p_w64 (x := c + (i : Int) + 1) (by omega) (by omega), p_w64 (x := (i : Int) + 1) (by omega) (by omega)]
    rw [show c + (i : Int) + 1 = c + ((i + 1 : Nat) : Int) from by omega]
    rfl
theorem heldPoly_ev (n : Nat) (hn : n ≤ 1048576) : Ev (fun k => laws_heldPoly.f k (mkP 1 n) 1) (1 + (n : Int)) := by
  have := heldPoly_l0 1 (by omega) (by omega) n hn n 0 (by omega) (by omega)
  simpa [laws_heldPoly.f] using this
theorem wf16 {x : Int} (h : (Lit.int .u16 x).wf = true) : 0 ≤ x ∧ x < 65536 := by
  simp only [Lit.wf, Bool.and_eq_true, decide_eq_true_eq] at h
  have e1 : IntKind.u16.min = 0 := by decide +kernel
  have e2 : IntKind.u16.max = 65535 := by decide +kernel
  rw [e1, e2] at h
  omega
end Go.Proofs.Ytadfobooofkelaa.X
namespace Go.Proofs.Ytadfobooofkelaa.Pure
open Go.RowKit Go.Proofs.Ytadfobooofkelaa.X Go.Proofs.YtadfobooofkelaaW.PrintWords Go.Proofs.YtadfobooofkelaaW.PrintLast
theorem FnExactPolyThrough : laws_FnExactPolyThrough.Pure := by
  intro l hm hw
  refine Ev.rounds ?_
  unfold laws_FnExactPolyThrough.f laws_szSpotS.f
  unfold maxLen at hm
  have hw0 : wrap64 (1048576 - (l.length : Int)) = 1048576 - (l.length : Int) := p_w64 (by omega) (by omega)
  rw [hw0]
  by_cases h0 : (1048576 : Int) - (l.length : Int) < 0
  · rw [if_pos h0]
    exact ev_some rfl (p_pos (by decide) (Ev.now _))
  rw [if_neg h0]
  refine ev_some rfl (p_neg h0 ?_)
  have hl : l.length ≤ 1048576 := by omega
  have hto := toSpotS_ev l hl
  have hl2 : (l.map cvS).length ≤ 1048576 := by simpa using hl
  obtain ⟨⟨p, c⟩, hp, hs, hi⟩ := through_ev (l.map cvS) hl2 (fun j hj => by
    have hj' : j < l.length := by simpa using hj
    obtain ⟨a, b⟩ := hw (l[j]) (List.getElem_mem hj')
    have e : rd_T67 (l.map cvS) (j : Int) = cvS l[j] := by simp [rd_T67, List.getD_eq_getElem?_getD, hj']
    rw [e]
    exact ⟨wf16 a, wf16 b⟩)
  dsimp only at hp
  have hpl : p.length ≤ 1048576 := by omega
  have he := eqPoly_ev p hpl
  refine Ev.bind hto (Ev.bind hs (Ev.bind hto (Ev.bind hi (Ev.bind he (p_pos rfl ?_)))))
  refine Ev.step (fun k => by simp only [laws_FnExactPolyThrough.j0, bne_self_eq_false, Bool.false_eq_true, if_false]; rfl) ?_
  refine Ev.bind hto (Ev.bind (eqSpotS_ev _ hl2) (p_pos rfl ?_))
  obtain ⟨n, ys, hmk⟩ := markSpotS_ev _ hl2
  refine Ev.bind hmk (p_neg (by dsimp only; omega) (Ev.bind he (p_pos rfl ?_)))
  refine Ev.step (fun k => by simp only [laws_FnExactPolyThrough.j1, Bool.false_eq_true, if_false]; rfl) ?_
  refine Ev.bind (markPoly_ev p hpl) ?_
  dsimp only
  refine Ev.bind (heldPoly_ev p.length hpl) (p_neg (by omega) (p_pos rfl ?_))
  refine Ev.bind hto (Ev.bind hi (Ev.bind he (p_pos rfl ?_)))
  refine Ev.step (fun k => by simp only [laws_FnExactPolyThrough.j2, bne_self_eq_false, Bool.false_eq_true, if_false]; rfl) ?_
  exact Ev.bind (heldPoly_ev p.length hpl) (p_neg (by omega) (p_pos rfl (Ev.now _)))
end Go.Proofs.Ytadfobooofkelaa.Pure

-- Laid by wip/xprint.py of this session (the kit's print program, with some contracts given by hand). Not trusted: Lean checks it.
namespace Go.Proofs.Ytadfobooofkelaa.fnExactPolyThrough
open Go.ChangeShapes Go.WideShapes Go.ChangeAt Go.RowKit Go.Joins Go.Deep
open Go.ChangeMaps (open_string shut_string)
open Go.Proofs.YtadfobooofkelaaW.PrintWords Go.Proofs.YtadfobooofkelaaW.PrintLast Go.Proofs.Ytadfobooofkelaa.X
set_option linter.unusedVariables false
theorem own : ownKnob Try.prog.godebug = none := by kernel_rfl
theorem laidOut : laidOutB Try.prog = true := by kernel_rfl
theorem open_slice_fields {H : Type} {enc : TypeId × Value → H} {P : Program} {w : World} {base : Nat} {spare : Nat → Bool} {held : Bool} {t e : TypeId} {fs : Array Field} {fuel : Nat} {cs : List Value} {x : DataW H × List MemPlace} (ht : P.underlying t = some (.slice e)) (he : P.underlying e = some (.struct fs))
    (hone : oneCellFields P fs = true) (hC : P.cellsOf e = fs.size) (h : DataW.trod enc P w base spare held fuel t cs = some x) :
    (cs = [.slice none 0 0]) ∨
    ∃ (a : Addr) (len cap m : Nat), cs = [.slice (some a) len cap] ∧ len ≤ cap ∧ cap ≤ maxLen ∧ m = (if spare a.block then cap else len) ∧
      ∀ i, i < m → ∃ (n : Nat), ∀ (j : Nat) (f : Field), fs[j]? = some f → ∃ (v : Value) (y : DataW H × List MemPlace), w.cell? (a.add (i * fs.size + j)) = some v ∧ DataW.trod enc P w base spare held n f.type [v] = some y := by
  rcases open_slice ht h with h0 | ⟨a, len, cap, m, n, D, Pl, hcs, hb, hl, hm, hmm, hx, hi⟩
  · exact .inl h0.1
  · refine .inr ⟨a, len, cap, m, hcs, hl, hm, hmm, fun i him => ?_⟩
    obtain ⟨cs', hc, ht'⟩ := hi i him
    rw [hC] at hc
    obtain ⟨ys, n', hn', hy, hlen, hyl, hf⟩ := DataW.trod_struct he ht'
    obtain ⟨_, hcl, hat⟩ := World.cells?_some hc
    refine ⟨n', fun j f hj => ?_⟩
    obtain ⟨ho, hk⟩ := hone_of hone j f hj
    have hjl : j < fs.size := (Array.getElem?_eq_some_iff.1 hj).1
    have hcell := hat j hjl
    have hv : cs'[j]? = some (cs'[j]'(by omega)) := List.getElem?_eq_getElem (by omega)
    have h1 := hf j f hj
    rw [ho, hk] at h1
    have hone' : (cs'.drop j).take 1 = [cs'[j]'(by omega)] := by
      rw [List.drop_eq_getElem_cons (by omega)]
      rfl
    rw [hone'] at h1
    have hys : ys[j]? = some (ys[j]'(by omega)) := List.getElem?_eq_getElem (by omega)
    refine ⟨_, _, ?_, h1.trans hys⟩
    rw [← Go.Deep.add_add, hcell, hv]
theorem list_of {α : Type} (Q : Nat → α → Prop) : ∀ n : Nat, (∀ i, i < n → ∃ x, Q i x) → ∃ l : List α, l.length = n ∧ ∀ i x, l[i]? = some x → Q i x
  | 0, _ => ⟨[], rfl, fun i x h => by simp at h⟩
  | n + 1, h => by
    obtain ⟨l, hl, hq⟩ := list_of Q n (fun i hi => h i (by omega))
    obtain ⟨x, hx⟩ := h n (by omega)
    refine ⟨l ++ [x], by simp [hl], fun i y hy => ?_⟩
    rcases Nat.lt_or_ge i l.length with hi | hi
    · rw [List.getElem?_append_left hi] at hy
      exact hq i y hy
    · rw [List.getElem?_append_right hi] at hy
      have : i = l.length := by
        have := (List.getElem?_eq_some_iff.1 hy).1
        simp at this
        omega
      subst this
      simp at hy
      subst hy
      rw [hl]
      exact hx
theorem open_t22 {H : Type} {enc : TypeId × Value → H} {W : World} {spare : Nat → Bool} {held : Bool} {base fuel : Nat} {c : Value} {y : DataW H × List MemPlace} (hsp : ∀ b, spare b = true) (h : DataW.trod enc Try.prog W base spare held fuel 22 [c] = some y) : ∃ (a : Option Addr) (cap : Nat) (l : List (S107)), c = .slice a l.length cap ∧ l.length ≤ cap ∧ Kd.C k107 W a l.length l ∧ l.length ≤ maxLen ∧ (∀ x ∈ l, (Lit.int .u16 x.f0).wf = true ∧ (Lit.int .u16 x.f1).wf = true) := by
  rcases open_slice_fields Try.underlying22 Try.underlying107 (by kernel_rfl) (by kernel_rfl) h with hcs | ⟨x, ln, cp, m, hcs, hl, hm, hmm, hi⟩
  · obtain rfl : c = .slice none 0 0 := by simpa using hcs
    exact ⟨none, 0, [], rfl, Nat.le_refl _, Kd.C_nil _ _, by simp [maxLen], fun x hx => by cases hx⟩
  · obtain rfl : c = .slice (some x) ln cp := by simpa using hcs
    rw [if_pos (hsp _)] at hmm
    have hx : ∀ i, i < ln → ∃ s : S107, ((Lit.int .u16 s.f0).wf = true ∧ (Lit.int .u16 s.f1).wf = true) ∧ W.cell? (x.add (i * 2 + 0)) = some (.int .u16 s.f0) ∧ W.cell? (x.add (i * 2 + 1)) = some (.int .u16 s.f1) := by
      intro i hi'
      obtain ⟨n, hf⟩ := hi i (by omega)
      obtain ⟨v0, y0, hc0, ht0⟩ := hf 0 _ rfl
      obtain ⟨z0, e0, _, w0⟩ := DataW.trod_int Try.underlying35 ht0
      obtain rfl : v0 = .int .u16 z0 := by simpa using e0
      obtain ⟨v1, y1, hc1, ht1⟩ := hf 1 _ rfl
      obtain ⟨z1, e1, _, w1⟩ := DataW.trod_int Try.underlying35 ht1
      obtain rfl : v1 = .int .u16 z1 := by simpa using e1
      exact ⟨⟨z0, z1⟩, ⟨w0, w1⟩, hc0, hc1⟩
    obtain ⟨l, hll, hq⟩ := list_of _ ln hx
    subst hll
    refine ⟨some x, cp, l, rfl, hl, ⟨rfl, by unfold maxLen at hm; omega, fun _ => ⟨x, rfl, fun j p hj => ?_⟩⟩, by omega, fun p hp => ?_⟩
    · obtain ⟨_, hc0, hc1⟩ := hq j p hj
      refine ⟨[.int .u16 p.f0, .int .u16 p.f1], rfl, k107_mk _ _, fun i u hu => ?_⟩
      match i, hu with
      | 0, hu => cases hu; exact hc0
      | 1, hu => cases hu; exact hc1
      | n + 2, hu => simp at hu
    · obtain ⟨j, hj⟩ := List.mem_iff_getElem?.1 hp
      exact (hq j p hj).1
set_option maxRecDepth 100000 in
theorem lifted (os : Os) (started : os.Started) (H : Type) (enc : TypeId × Value → H) :
    ReturnsInHanded {} Try.checked os 3 .any (Rows.fnExactPolyThroughSpec.pre6 enc Try.prog Try.f3 Rows.fnExactPolyThroughRow.domain false) (Rows.fnExactPolyThroughSpec.post enc Try.prog Try.f3 false true false false) := by
  refine returnsInHanded_of_change_sized (C := Try.checked) own started (by kernel_rfl) Try.func3
    (ChangeSpec.witness6 (enc := enc) (C := Try.checked) false ⟨#[], #[.slice none 0 0], []⟩ 8 (by kernel_rfl) (by kernel_rfl) (by kernel_rfl) (by kernel_rfl)) ?_
  intro W base args ds gs before hval0 hW hcnd hsz0 _
  have hsz : (DataW.weightsEach Try.prog (Try.f3.params.toList ++ Rows.fnExactPolyThroughSpec.plain.varTypes Try.prog) (ds ++ gs)).all (· ≤ reachBytes) = true := hsz0
  have hval : ∀ (j : Nat) t v, Try.f3.params[j]? = some t → args[j]? = some v → Value.okWide Try.prog W .any base t v := hval0
  have hW' := hW
  obtain ⟨p, q, hA0, hV, rfl, hfz, hnd⟩ := hW
  have hA : DataW.TrodAll enc Try.prog W 0 (fun _ => true) true Try.f3.params.toList args.toList ds p := hA0
  rw [Try.params3] at hA hval hsz
  obtain ⟨v0, vs0, d0, ds0, p0, q0, hargs, rfl, rfl, h0, r0⟩ := trodAll_cons hA
  obtain ⟨rfl, rfl, rfl⟩ := trodAll_nil r0
  obtain rfl : args = #[v0] := by cases args; simp_all
  obtain ⟨rfl, rfl⟩ := trodVars_none hV
  have k0 := h0
  have lt0 : ∀ x ∈ p0, x.block < W.heap.size := by obtain ⟨m, hm⟩ := k0; exact DataW.trod_lt m _ _ _ hm
  obtain ⟨a0, len0, cap0, rfl⟩ := okWide_slice Try.underlying22 (hval 0 22 v0 rfl rfl)
  obtain ⟨n0, g0⟩ := h0
  have g0 : DataW.trod enc Try.prog W 0 (fun _ => true) true n0 22 [.slice a0 len0 cap0] = some (d0, p0) := g0
  obtain ⟨A0, cp0, l0, e0, hc0, hr0, hm0, hw0⟩ := open_t22 (fun _ => rfl) g0
  injection e0 with ea0 el0 ec0; subst ea0; subst el0; subst ec0
  clear hA0 hval0 hsz0 hsz
  obtain ⟨k, h⟩ := Pure.FnExactPolyThrough l0 hm0 hw0
  refine (laws_FnExactPolyThrough.calls k _ _ l0 true W hr0 hc0 h).mono fun e W' ⟨he, bel0⟩ => ?_
  have bel : Below W.heap.size W W' := bel0
  subst he
  exact ⟨_, rfl, _, _, _, [], _, [], hW', trodAll_mk1 (shut_bool Try.underlying4 _), (trodAll_cons_mk (Below.trod laidOut (by kernel_rfl) (of_decide_eq_true (by kernel_rfl)) k0 bel lt0) trodAll_mk0), rfl, bel.frame _, fun h => by cases h⟩
theorem over : Rows.fnExactPolyThroughRow.holds Try.pinned (OpenSpec.ofChange Rows.fnExactPolyThroughSpec) :=
  OpenClaim.holds_of_wide 3 Try.f3 rfl rfl rfl rfl rfl rfl rfl ⟨rfl, rfl, rfl, rfl, rfl⟩ rfl rfl rfl rfl rfl (by kernel_rfl) Try.func3 (by kernel_rfl)
    (of_decide_eq_true (by kernel_rfl)) (by unfold Func.isWrapper; first | (rw [if_pos (by decide +kernel)]; kernel_rfl) | (rw [if_neg (by decide +kernel)]; exact ⟨rfl, rfl⟩))
    (fun os started H enc _ => lifted os started H enc)
theorem proved : Rows.FnExactPolyThroughSaid := over
end Go.Proofs.Ytadfobooofkelaa.fnExactPolyThrough
namespace Go.Proofs.Ytadfobooofkelaa
theorem fnExactPolyThrough_holds : Rows.FnExactPolyThroughSaid := fnExactPolyThrough.proved
end Go.Proofs.Ytadfobooofkelaa
