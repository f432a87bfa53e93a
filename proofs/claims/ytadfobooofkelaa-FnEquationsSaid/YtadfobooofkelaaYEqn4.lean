/- Texts of this claim, joined: what the claim's last text comes to. They hold without any condition beyond those that each states. -/
import Derived.Test.YtadfobooofkelaaYEqn3
-- Laid by wip/xprint.py of this session (the kit's print program, with some contracts given by hand). Not trusted: Lean checks it.
namespace Go.Proofs.Ytadfobooofkelaa.X
open Go.RowKit Go.Proofs.YtadfobooofkelaaW.PrintWords Go.Proofs.YtadfobooofkelaaW.PrintLast Go.Proofs.YtadfobooofkelaaW.PrintMore
attribute [local go_sem] max2_int min2_int max_two min_two max_three min_three max_four min_four
set_option linter.unusedVariables false
set_option linter.unusedSimpArgs false
def spec_LeastGenerator.l0 : Nat → Int → Int → Option (Int × Int)
  | 0, _, _ => none
  | k + 1, x4, x5 => (spec_l01Order.f k x5).bind fun t102 => (if (wrap64 (x4 - 1)) = 0 then (none) else (if (Int.tmod t102 (wrap64 (x4 - 1))) = 0 then (some (x5, 0)) else (spec_LeastGenerator.l0 k x4 (IntKind.u16.wrap (x5 + 1)))))
def spec_LeastGenerator.f (k : Nat) (a0 : Int) : Option (Int × Int) := (spec_l00In.f a0 1 4).bind fun t101 => (if t101 = true then (if 0 ≤ (IntKind.u64.wrap (a0)) then (spec_LeastGenerator.l0 k (shl .i64 1 (shl .u64 1 (IntKind.u64.wrap (a0)))) 2) else (none)) else (some (0, 2)))
set_option maxHeartbeats 8000000 in
set_option maxRecDepth 100000 in
theorem spec_LeastGenerator.calls (k : Nat) (a0 : Int) (r1 : Int) (r2 : Int) (w : World) (h : spec_LeastGenerator.f k a0 = some (r1, r2)) :
    Calls Try.prog 80 #[.int .i64 a0] w fun e w' => e = .returned (.tuple #[.int .u16 r1, .int .i64 r2]) ∧ Below w.heap.size w w' := by
  have HB := Aside0.mk (Below.refl w.heap.size w)
  have H : ((spec_l00In.f a0 1 4).bind fun t101 => (if t101 = true then (if 0 ≤ (IntKind.u64.wrap (a0)) then (spec_LeastGenerator.l0 k (shl .i64 1 (shl .u64 1 (IntKind.u64.wrap (a0)))) 2) else (none)) else (some (0, 2)))) = some (r1, r2) := h
  clear h
  replace H := Option.bind_eq_some_iff.mp H
  obtain ⟨t101, A20, H⟩ := H
  replace H : (if t101 = true then (if 0 ≤ (IntKind.u64.wrap (a0)) then (spec_LeastGenerator.l0 k (shl .i64 1 (shl .u64 1 (IntKind.u64.wrap (a0)))) 2) else (none)) else (some (0, 2))) = some (r1, r2) := H
  have A2 := Aside0.mk A20
  clear A20
  by_cases c3 : t101 = true
  · subst c3
    have H1 : (if 0 ≤ (IntKind.u64.wrap (a0)) then (spec_LeastGenerator.l0 k (shl .i64 1 (shl .u64 1 (IntKind.u64.wrap (a0)))) 2) else (none)) = some (r1, r2) := by rw [if_pos rfl] at H; exact H
    clear H
    have H := H1
    clear H1
    obtain ⟨ji4, hji4⟩ : ∃ j_ : Int, (IntKind.u64.wrap (a0)) = j_ := ⟨_, rfl⟩
    replace H : (if 0 ≤ (ji4) then (spec_LeastGenerator.l0 k (shl .i64 1 (shl .u64 1 (ji4))) 2) else (none)) = some (r1, r2) := by first | (rw [hji4] at H; exact H) | (simp only [hji4] at H ⊢; exact H)
    (try rw [hji4] at A2)
    by_cases c5 : 0 ≤ (ji4)
    · rw [if_pos c5] at H
      have c5b0 := eq_true c5
      have c5b1 : decide (0 ≤ (ji4)) = true := decide_eq_true c5
      clear c5
      obtain ⟨ji6, hji6⟩ : ∃ j_ : Int, (shl .u64 1 (ji4)) = j_ := ⟨_, rfl⟩
      try have hji6p : decide (0 ≤ ji6) = true := decide_eq_true (by rw [← hji6]; unfold shl IntKind.wrap; simp [IntKind.u64, IntKind.signed]; omega)
      try have hji6q : 0 ≤ ji6 := of_decide_eq_true hji6p
      replace H : (spec_LeastGenerator.l0 k (shl .i64 1 (ji6)) 2) = some (r1, r2) := by first | (rw [hji6] at H; exact H) | (simp only [hji6] at H ⊢; exact H)
      (try rw [hji6] at A2)
      have hji6_ : (IntKind.u64.wrap (1 * 2 ^ min (ji4).toNat 64)) = ji6 := hji6
      have hji6z : (ji4) ≤ 64 → (IntKind.u64.wrap (1 * 2 ^ (ji4).toNat)) = ji6 := shl_small hji6
      have hji6u : (IntKind.u64.wrap (2 ^ min (ji4).toNat 64)) = ji6 := by have h_ := hji6_; rw [Int.one_mul] at h_; exact h_
      have hji6v : (ji4) ≤ 64 → (IntKind.u64.wrap (2 ^ (ji4).toNat)) = ji6 := fun hle_ => by have h_ := hji6z hle_; rw [Int.one_mul] at h_; exact h_
      obtain ⟨ji7, hji7⟩ : ∃ j_ : Int, (shl .i64 1 (ji6)) = j_ := ⟨_, rfl⟩
      replace H : (spec_LeastGenerator.l0 k ji7 2) = some (r1, r2) := by first | (rw [hji7] at H; exact H) | (simp only [hji7] at H ⊢; exact H)
      (try rw [hji7] at A2)
      have hji7_ : (IntKind.i64.wrap (1 * 2 ^ min (ji6).toNat 64)) = ji7 := hji7
      have hji7z : (ji6) ≤ 64 → (IntKind.i64.wrap (1 * 2 ^ (ji6).toNat)) = ji7 := shl_small hji7
      have hji7u : (IntKind.i64.wrap (2 ^ min (ji6).toNat 64)) = ji7 := by have h_ := hji7_; rw [Int.one_mul] at h_; exact h_
      have hji7v : (ji6) ≤ 64 → (IntKind.i64.wrap (2 ^ (ji6).toNat)) = ji7 := fun hle_ => by have h_ := hji7z hle_; rw [Int.one_mul] at h_; exact h_
      have hji7y : (wrap64 (1 * 2 ^ min (ji6).toNat 64)) = ji7 := (i64_w _).symm.trans hji7_
      have hji7x : (ji6) ≤ 64 → (wrap64 (1 * 2 ^ (ji6).toNat)) = ji7 := fun h_ => (i64_w _).symm.trans (hji7z h_)
      have H' := Aside0.mk H
      clear H
      go_enter Try.func80, Try.ntmps80
      go_wp2_with (first | ((with_reducible refine gate_callee (f := 123) rfl ?_); refine goesL_ (some 7) rfl rfl Try.func123 (by kernel_rfl) rfl #[.int .i64 a0, .int .i64 1, .int .i64 4] rfl (by (try simp only [List.map_toArray, List.map_cons, List.map_nil]); first | done | rfl | (simp only [List.length_drop, List.length_take]; rfl)) ?_; (with_reducible refine (spec_l00In.calls a0 1 4 true _ A2.out).mono ?_); rintro e w' ⟨rfl, ⟨nd, rfl⟩⟩; refine ⟨_, rfl, ?_⟩))
      go_loopg [5] k (fun kq v5 w' => ∃ (x5_1 : Int), v5 = .int .u16 x5_1 ∧ Aside0 (spec_LeastGenerator.l0 kq ji7 x5_1 = some (r1, r2)) ∧ Aside0 (kq ≤ k) ∧ Aside0 (Below w.heap.size w w'))
      case atStart => exact ⟨(2), (by first | rfl | (simp; done) | (simp [*]; done)), H', ⟨Nat.le_refl _⟩, ⟨by repeat (first | (with_reducible first | exact HB.out | apply below_alloc | apply pw_below_drewN | apply below_drew1) | exact HB.out)⟩⟩
      case round =>
        clear H'
        try clear c1
        try clear p2
        try clear c3
        try clear c5
        try clear c5b0
        try clear c5b1
        try clear p6
        obtain ⟨x5_1, rfl, HA, HK1, HB⟩ := hrel
        cases gk with
        | zero => exact absurd HA.out (by simp [spec_LeastGenerator.l0])
        | succ k1 =>
          have H := HA.out
          clear HA
          simp only [spec_LeastGenerator.l0] at H
          replace H := Option.bind_eq_some_iff.mp H
          obtain ⟨t102, A80, H⟩ := H
          replace H : (if (wrap64 (ji7 - 1)) = 0 then (none) else (if (Int.tmod t102 (wrap64 (ji7 - 1))) = 0 then (some (x5_1, 0)) else (spec_LeastGenerator.l0 k1 ji7 (IntKind.u16.wrap (x5_1 + 1))))) = some (r1, r2) := H
          have A8 := Aside0.mk A80
          clear A80
          by_cases c9 : (wrap64 (ji7 - 1)) = 0
          · rw [if_pos c9] at H
            exact absurd H (by simp)
          · rw [if_neg c9] at H
            have c9b0 : ((wrap64 (ji7 - 1)) == 0) = false := beq_eq_false_iff_ne.mpr c9
            have c9b1 : ((wrap64 (ji7 - 1)) != 0) = true := bne_iff_ne.mpr c9
            by_cases c10 : (Int.tmod t102 (wrap64 (ji7 - 1))) = 0
            · rw [if_pos c10] at H
              have c10b0 : ((Int.tmod t102 (wrap64 (ji7 - 1))) == 0) = true := beq_iff_eq.mpr c10
              have c10b1 : ((Int.tmod t102 (wrap64 (ji7 - 1))) != 0) = false := bne_eq_false_iff_eq.mpr c10
              clear c10
              simp only [Option.some.injEq, Prod.mk.injEq] at H
              obtain ⟨rfl, rfl⟩ := H
              go_wp2_with (first | ((with_reducible refine gate_callee (f := 148) rfl ?_); refine goesL_ (some 14) rfl rfl Try.func148 (by kernel_rfl) rfl #[.int .u16 x5_1] rfl (by (try simp only [List.map_toArray, List.map_cons, List.map_nil]); first | done | rfl | (simp only [List.length_drop, List.length_take]; rfl)) ?_; (with_reducible refine (spec_l01Order.calls k1 x5_1 t102 _ A8.out).mono ?_); rintro e w11 ⟨rfl, hb⟩; refine ⟨_, rfl, ?_⟩; (try replace hb := Drawn0.below hb); have n0_ := Aside0.mk (below_step (by repeat (first | (with_reducible first | exact HB.out | apply below_alloc | apply pw_below_drewN | apply below_drew1) | exact HB.out)) hb); clear HB; have HB := n0_; clear n0_; (try clear hb); (try clear hb2); (try clear hk); (try clear hi)))
              go_ret2
              exact ⟨by first | rfl | (simp [errW_none, errW_some] <;> rfl) | (simp only [← hji4, ← hji6, ← hji7]; first | rfl | (simp [errW_none, errW_some] <;> rfl)) | (simp [*, errW_none, errW_some] <;> rfl), by repeat (first | (with_reducible first | exact HB.out | apply below_alloc | apply pw_below_drewN | apply below_drew1) | exact HB.out)⟩
            · rw [if_neg c10] at H
              have c10b0 : ((Int.tmod t102 (wrap64 (ji7 - 1))) == 0) = false := beq_eq_false_iff_ne.mpr c10
              have c10b1 : ((Int.tmod t102 (wrap64 (ji7 - 1))) != 0) = true := bne_iff_ne.mpr c10
              have H' := Aside0.mk H
              clear H
              go_wp2_with (first | ((with_reducible refine gate_callee (f := 148) rfl ?_); refine goesL_ (some 14) rfl rfl Try.func148 (by kernel_rfl) rfl #[.int .u16 x5_1] rfl (by (try simp only [List.map_toArray, List.map_cons, List.map_nil]); first | done | rfl | (simp only [List.length_drop, List.length_take]; rfl)) ?_; (with_reducible refine (spec_l01Order.calls k1 x5_1 t102 _ A8.out).mono ?_); rintro e w12 ⟨rfl, hb⟩; refine ⟨_, rfl, ?_⟩; (try replace hb := Drawn0.below hb); have n0_ := Aside0.mk (below_step (by repeat (first | (with_reducible first | exact HB.out | apply below_alloc | apply pw_below_drewN | apply below_drew1) | exact HB.out)) hb); clear HB; have HB := n0_; clear n0_; (try clear hb); (try clear hb2); (try clear hk); (try clear hi)))
              go_roundg k1
              case measure => have := HK1.out; omega
              case rel => exact ⟨(IntKind.u16.wrap (x5_1 + 1)), (by first | rfl | (simp; done) | (simp [*]; done)), H', ⟨by have := HK1.out; omega⟩, ⟨by repeat (first | (with_reducible first | exact HB.out | apply below_alloc | apply pw_below_drewN | apply below_drew1) | exact HB.out)⟩⟩
    · rw [if_neg c5] at H
      exact absurd H (by simp)
  · replace c3 := Bool.eq_false_iff.mpr c3
    subst c3
    have H1 : (some (0, 2)) = some (r1, r2) := by rw [if_neg (show ¬ (false = true) by decide)] at H; exact H
    clear H
    have H := H1
    clear H1
    simp only [Option.some.injEq, Prod.mk.injEq] at H
    obtain ⟨rfl, rfl⟩ := H
    go_enter Try.func80, Try.ntmps80
    go_wp2_with (first | ((with_reducible refine gate_callee (f := 123) rfl ?_); refine goesL_ (some 7) rfl rfl Try.func123 (by kernel_rfl) rfl #[.int .i64 a0, .int .i64 1, .int .i64 4] rfl (by (try simp only [List.map_toArray, List.map_cons, List.map_nil]); first | done | rfl | (simp only [List.length_drop, List.length_take]; rfl)) ?_; (with_reducible refine (spec_l00In.calls a0 1 4 false _ A2.out).mono ?_); rintro e w' ⟨rfl, ⟨nd, rfl⟩⟩; refine ⟨_, rfl, ?_⟩))
    go_ret2
    exact ⟨by first | rfl | (simp [errW_none, errW_some] <;> rfl) | (simp [*, errW_none, errW_some] <;> rfl), by repeat (first | (with_reducible first | exact HB.out | apply below_alloc | apply pw_below_drewN | apply below_drew1) | exact HB.out)⟩
end Go.Proofs.Ytadfobooofkelaa.X

-- Laid by wip/xprint.py of this session (the kit's print program, with some contracts given by hand). Not trusted: Lean checks it.
namespace Go.Proofs.Ytadfobooofkelaa.X
open Go.RowKit Go.Proofs.YtadfobooofkelaaW.PrintWords Go.Proofs.YtadfobooofkelaaW.PrintLast Go.Proofs.YtadfobooofkelaaW.PrintMore
attribute [local go_sem] max2_int min2_int max_two min_two max_three min_three max_four min_four
set_option linter.unusedVariables false
set_option linter.unusedSimpArgs false
def impl_OrderOf.f (k : Nat) (a0 : Int) : Option (Int × Int) := if a0 = 0 then (some (0, 4)) else ((impl_order.f k a0).bind fun t101 => (some (t101, 0)))
set_option maxHeartbeats 8000000 in
set_option maxRecDepth 100000 in
theorem impl_OrderOf.calls (k : Nat) (a0 : Int) (r1 : Int) (r2 : Int) (w : World) (h : impl_OrderOf.f k a0 = some (r1, r2)) :
    Calls Try.prog 81 #[.int .u16 a0] w fun e w' => e = .returned (.tuple #[.int .i64 r1, .int .i64 r2]) ∧ Below w.heap.size w w' := by
  have HB := Aside0.mk (Below.refl w.heap.size w)
  have H : (if a0 = 0 then (some (0, 4)) else ((impl_order.f k a0).bind fun t101 => (some (t101, 0)))) = some (r1, r2) := h
  clear h
  by_cases c2 : a0 = 0
  · rw [if_pos c2] at H
    have c2b0 : (a0 == 0) = true := beq_iff_eq.mpr c2
    have c2b1 : (a0 != 0) = false := bne_eq_false_iff_eq.mpr c2
    clear c2
    simp only [Option.some.injEq, Prod.mk.injEq] at H
    obtain ⟨rfl, rfl⟩ := H
    go_enter Try.func81, Try.ntmps81
    go_wp2
    go_ret2
    exact ⟨by first | rfl | (simp [errW_none, errW_some] <;> rfl) | (simp [*, errW_none, errW_some] <;> rfl), by repeat (first | (with_reducible first | exact HB.out | apply below_alloc | apply pw_below_drewN | apply below_drew1) | exact HB.out)⟩
  · rw [if_neg c2] at H
    have c2b0 : (a0 == 0) = false := beq_eq_false_iff_ne.mpr c2
    have c2b1 : (a0 != 0) = true := bne_iff_ne.mpr c2
    replace H := Option.bind_eq_some_iff.mp H
    obtain ⟨t101, A30, H⟩ := H
    replace H : (some (t101, 0)) = some (r1, r2) := H
    have A3 := Aside0.mk A30
    clear A30
    simp only [Option.some.injEq, Prod.mk.injEq] at H
    obtain ⟨rfl, rfl⟩ := H
    go_enter Try.func81, Try.ntmps81
    go_wp2_with (first | ((with_reducible refine gate_callee (f := 147) rfl ?_); refine goesL_ (some 7) rfl rfl Try.func147 (by kernel_rfl) rfl #[.int .u16 a0] rfl (by (try simp only [List.map_toArray, List.map_cons, List.map_nil]); first | done | rfl | (simp only [List.length_drop, List.length_take]; rfl)) ?_; (with_reducible refine (impl_order.calls k a0 t101 _ A3.out).mono ?_); rintro e w4 ⟨rfl, hb⟩; refine ⟨_, rfl, ?_⟩; have n0_ := Aside0.mk (below_step (by repeat (first | (with_reducible first | exact HB.out | apply below_alloc | apply pw_below_drewN | apply below_drew1) | exact HB.out)) hb); clear HB; have HB := n0_; clear n0_; (try clear hb); (try clear hb2); (try clear hk); (try clear hi)))
    go_ret2
    exact ⟨by first | rfl | (simp [errW_none, errW_some] <;> rfl) | (simp [*, errW_none, errW_some] <;> rfl), by repeat (first | (with_reducible first | exact HB.out | apply below_alloc | apply pw_below_drewN | apply below_drew1) | exact HB.out)⟩
end Go.Proofs.Ytadfobooofkelaa.X

-- Laid by wip/xprint.py of this session (the kit's print program, with some contracts given by hand). Not trusted: Lean checks it.
namespace Go.Proofs.Ytadfobooofkelaa.X
open Go.RowKit Go.Proofs.YtadfobooofkelaaW.PrintWords Go.Proofs.YtadfobooofkelaaW.PrintLast Go.Proofs.YtadfobooofkelaaW.PrintMore
attribute [local go_sem] max2_int min2_int max_two min_two max_three min_three max_four min_four
set_option linter.unusedVariables false
set_option linter.unusedSimpArgs false
mutual
def laws_FnEquations.j0 : Nat → List Int → Int → Int → Int → Bool → Option (Bool)
  | 0, _, _, _, _, _ => none
  | k + 1, x1, x5, x6, x7, x62 => if x62 = true then (none) else ((impl_ConjugatesOf.f k x5).bind fun t110 => ((spec_ConjugatesOf.f k x5).bind fun t113 => ((spec_A2SameNims.f k t110 t113).bind fun t116 => (if t116 = true then (if (t113.length : Int) = 0 then (none) else (if ((16 : Int) % (t113.length : Int)) = 0 then (if 0 < (t113.length : Int) then (if (rd t113 0) = x5 then (if 0 ≤ (wrap64 ((t113.length : Int) - 1)) then (if (wrap64 ((t113.length : Int) - 1)) < (t113.length : Int) then ((spec_SquareOf.f (rd t113 (wrap64 ((t113.length : Int) - 1)))).bind fun t119 => (laws_FnEquations.j1 k x1 x5 x6 x7 (t119 != x5))) else (none)) else (none)) else (laws_FnEquations.j1 k x1 x5 x6 x7 true)) else (none)) else (laws_FnEquations.j1 k x1 x5 x6 x7 true))) else (laws_FnEquations.j1 k x1 x5 x6 x7 true)))))
def laws_FnEquations.j1 : Nat → List Int → Int → Int → Int → Bool → Option (Bool)
  | 0, _, _, _, _, _ => none
  | k + 1, x1, x5, x6, x7, x94 => if x94 = true then (none) else ((impl_HalfRoot.f k x5).bind fun bt120 => ((spec_HalfRoot.f k x5).bind fun bt122 => (if bt120.2 = bt122.2 then (if bt120.1 = bt122.1 then (if ((bt120.2 == 0) != (x7 == 0)) = true then (laws_FnEquations.j2 k x1 x5 x6 true) else (if bt120.2 = 0 then ((spec_SquareOf.f bt122.1).bind fun t124 => (if (Go.bits .xor .u16 bt122.1 t124) = x5 then (laws_FnEquations.j2 k x1 x5 x6 ((Int.tmod bt122.1 2) != 0)) else (laws_FnEquations.j2 k x1 x5 x6 true))) else (laws_FnEquations.j2 k x1 x5 x6 false))) else (laws_FnEquations.j2 k x1 x5 x6 true)) else (laws_FnEquations.j2 k x1 x5 x6 true))))
def laws_FnEquations.j2 : Nat → List Int → Int → Int → Bool → Option (Bool)
  | 0, _, _, _, _ => none
  | k + 1, x1, x5, x6, x136 => if x136 = true then (none) else ((impl_QuadraticRoots.f k x5 x6).bind fun t125 => ((spec_QuadraticRoots.f k x5 x6).bind fun t128 => ((spec_A2SameNims.f k t125 t128).bind fun t131 => (if t131 = true then (laws_FnEquations.l0 k x1 x5 x6 t128 0) else (none)))))
def laws_FnEquations.l0 : Nat → List Int → Int → Int → List Int → Int → Option (Bool)
  | 0, _, _, _, _, _ => none
  | k + 1, x1, x5, x6, x15, x16 => if x16 < (x15.length : Int) then (if 0 ≤ x16 then ((spec_SquareOf.f (rd x15 x16)).bind fun t133 => ((spec_TimesNim.f x5 (rd x15 x16)).bind fun t134 => (if (Go.bits .xor .u16 (Go.bits .xor .u16 t133 t134) x6) = 0 then (if x16 > 0 then (if 0 ≤ (wrap64 (x16 - 1)) then (if (wrap64 (x16 - 1)) < (x15.length : Int) then (if (rd x15 x16) ≤ (rd x15 (wrap64 (x16 - 1))) then (none) else (if 0 < (x15.length : Int) then (if (Go.bits .xor .u16 (rd x15 x16) (rd x15 0)) = x5 then (laws_FnEquations.l0 k x1 x5 x6 x15 (wrap64 (x16 + 1))) else (none)) else (none))) else (none)) else (none)) else (laws_FnEquations.l0 k x1 x5 x6 x15 (wrap64 (x16 + 1)))) else (none)))) else (none)) else ((spec_TimesNim.f x5 x6).bind fun t137 => ((impl_QuadraticRoots.f k (Go.bits .xor .u16 x5 x6) t137).bind fun t138 => (if x5 = x6 then (if (t138.length : Int) = 1 then (if 0 < (t138.length : Int) then (if (rd t138 0) = x5 then (if x5 = 0 then (some ((x15.length : Int) == 1)) else (some true)) else (none)) else (none)) else (none)) else ((laws_a2At.f x1 0 4).bind fun t142 => ((impl_LeastGenerator.f k (wrap64 (1 + t142))).bind fun bt143 => ((spec_LeastGenerator.f k (wrap64 (1 + t142))).bind fun bt145 => (laws_FnEquations.l1 k x5 x6 t138 (wrap64 (1 + t142)) bt143.1 bt143.2 bt145.1 bt145.2 2 0)))))))
def laws_FnEquations.l1 : Nat → Int → Int → List Int → Int → Int → Int → Int → Int → Int → Int → Option (Bool)
  | 0, _, _, _, _, _, _, _, _, _, _ => none
  | k + 1, x5, x6, x18, x19, x20, x21, x22, x23, x24, x25 => if x25 < x19 then (laws_FnEquations.l1 k x5 x6 x18 x19 x20 x21 x22 x23 (wrap64 (x24 * x24)) (wrap64 (x25 + 1))) else ((impl_OrderOf.f k x22).bind fun bt147 => (if (x18.length : Int) = 2 then (if 0 < (x18.length : Int) then (if (rd x18 0) = (mn x5 x6) then (if 1 < (x18.length : Int) then (if (rd x18 1) = (mx x5 x6) then (if x21 = x23 then (if x21 = 0 then (if x20 = x22 then (if bt147.2 = 0 then (some (bt147.1 == (wrap64 (x24 - 1)))) else (none)) else (none)) else (none)) else (none)) else (none)) else (none)) else (none)) else (none)) else (none)))
end
def laws_FnEquations.f (k : Nat) (l0 : List Int) (l1 : List Int) : Option (Bool) := (laws_a2Long.f l0 l1).bind fun t101 => (if t101 = true then (some true) else ((spec_A2Nim.f k l0).bind fun t102 => ((spec_A2Nim.f k l1).bind fun t103 => ((impl_TraceOf.f k t102).bind fun t104 => ((spec_TraceOf.f k t102).bind fun t105 => (if t104 = t105 then (if t104 > 1 then (laws_FnEquations.j0 k l1 t102 t103 t104 true) else ((impl_TraceOf.f k (Go.bits .xor .u16 t102 t103)).bind fun t106 => ((spec_TraceOf.f k t103).bind fun t107 => (if t106 = (Go.bits .xor .u16 t104 t107) then ((spec_SquareOf.f t102).bind fun t108 => ((impl_TraceOf.f k t108).bind fun t109 => (laws_FnEquations.j0 k l1 t102 t103 t104 (t109 != t104)))) else (laws_FnEquations.j0 k l1 t102 t103 t104 true))))) else (laws_FnEquations.j0 k l1 t102 t103 t104 true)))))))
set_option maxHeartbeats 8000000 in
set_option maxRecDepth 100000 in
theorem laws_FnEquations.calls (k : Nat) (A0 : Option Addr) (c0 : Nat) (l0 : List Int) (A1 : Option Addr) (c1 : Nat) (l1 : List Int) (r : Bool) (w : World) (hr0 : Kd.C (Kd.int .u8) w A0 l0.length l0) (hc0 : l0.length ≤ c0) (hr1 : Kd.C (Kd.int .u8) w A1 l1.length l1) (hc1 : l1.length ≤ c1) (h : laws_FnEquations.f k l0 l1 = some r) :
    Calls Try.prog 9 #[.slice A0 l0.length c0, .slice A1 l1.length c1] w fun e w' => e = .returned (.bool r) ∧ Below w.heap.size w w' := by
  have HR0 := Aside0.mk hr0
  have HC0 := Aside0.mk hc0
  clear hr0 hc0
  have HR1 := Aside0.mk hr1
  have HC1 := Aside0.mk hc1
  clear hr1 hc1
  have HB := Aside0.mk (Below.refl w.heap.size w)
  have H : ((laws_a2Long.f l0 l1).bind fun t101 => (if t101 = true then (some true) else ((spec_A2Nim.f k l0).bind fun t102 => ((spec_A2Nim.f k l1).bind fun t103 => ((impl_TraceOf.f k t102).bind fun t104 => ((spec_TraceOf.f k t102).bind fun t105 => (if t104 = t105 then (if t104 > 1 then (laws_FnEquations.j0 k l1 t102 t103 t104 true) else ((impl_TraceOf.f k (Go.bits .xor .u16 t102 t103)).bind fun t106 => ((spec_TraceOf.f k t103).bind fun t107 => (if t106 = (Go.bits .xor .u16 t104 t107) then ((spec_SquareOf.f t102).bind fun t108 => ((impl_TraceOf.f k t108).bind fun t109 => (laws_FnEquations.j0 k l1 t102 t103 t104 (t109 != t104)))) else (laws_FnEquations.j0 k l1 t102 t103 t104 true))))) else (laws_FnEquations.j0 k l1 t102 t103 t104 true)))))))) = some r := h
  clear h
  replace H := Option.bind_eq_some_iff.mp H
  obtain ⟨t101, A30, H⟩ := H
  replace H : (if t101 = true then (some true) else ((spec_A2Nim.f k l0).bind fun t102 => ((spec_A2Nim.f k l1).bind fun t103 => ((impl_TraceOf.f k t102).bind fun t104 => ((spec_TraceOf.f k t102).bind fun t105 => (if t104 = t105 then (if t104 > 1 then (laws_FnEquations.j0 k l1 t102 t103 t104 true) else ((impl_TraceOf.f k (Go.bits .xor .u16 t102 t103)).bind fun t106 => ((spec_TraceOf.f k t103).bind fun t107 => (if t106 = (Go.bits .xor .u16 t104 t107) then ((spec_SquareOf.f t102).bind fun t108 => ((impl_TraceOf.f k t108).bind fun t109 => (laws_FnEquations.j0 k l1 t102 t103 t104 (t109 != t104)))) else (laws_FnEquations.j0 k l1 t102 t103 t104 true))))) else (laws_FnEquations.j0 k l1 t102 t103 t104 true))))))) = some r := H
  have A3 := Aside0.mk A30
  clear A30
  by_cases c4 : t101 = true
  · subst c4
    have H1 : (some true) = some r := by rw [if_pos rfl] at H; exact H
    clear H
    have H := H1
    clear H1
    as_aux_lemma =>
      obtain rfl := Option.some.inj H
      go_enter Try.func9, Try.ntmps9
      go_wp2_with (first | ((with_reducible refine gate_callee (f := 21) rfl ?_); refine goesL_ (some 30) rfl rfl Try.func21 (by kernel_rfl) rfl #[.slice A0 l0.length c0, .slice A1 l1.length c1] rfl (by (try simp only [List.map_toArray, List.map_cons, List.map_nil]); first | done | rfl | (simp only [List.length_drop, List.length_take]; rfl)) ?_; (with_reducible refine (laws_a2Long.calls _ _ l0 _ _ l1 true _ ?side1 ?side2 ?side3 ?side4 A3.out).mono ?_); (case side1 => repeat (first | exact HR0.out | (with_reducible refine Kd.C_alloc ?_ _) | (with_reducible refine Kd.C_drewN ?_ _) | (with_reducible refine Kd.C_drew ?_))); (case side2 => exact HC0.out); (case side3 => repeat (first | exact HR1.out | (with_reducible refine Kd.C_alloc ?_ _) | (with_reducible refine Kd.C_drewN ?_ _) | (with_reducible refine Kd.C_drew ?_))); (case side4 => exact HC1.out); rintro e w' ⟨rfl, ⟨nd, rfl⟩⟩; refine ⟨_, rfl, ?_⟩))
      go_ret
      exact ⟨by first | rfl | (simp [errW_none, errW_some] <;> rfl) | (simp [*, errW_none, errW_some] <;> rfl), by repeat (first | (with_reducible first | exact HB.out | apply below_alloc | apply pw_below_drewN | apply below_drew1) | exact HB.out)⟩
  · replace c4 := Bool.eq_false_iff.mpr c4
    subst c4
    have H1 : ((spec_A2Nim.f k l0).bind fun t102 => ((spec_A2Nim.f k l1).bind fun t103 => ((impl_TraceOf.f k t102).bind fun t104 => ((spec_TraceOf.f k t102).bind fun t105 => (if t104 = t105 then (if t104 > 1 then (laws_FnEquations.j0 k l1 t102 t103 t104 true) else ((impl_TraceOf.f k (Go.bits .xor .u16 t102 t103)).bind fun t106 => ((spec_TraceOf.f k t103).bind fun t107 => (if t106 = (Go.bits .xor .u16 t104 t107) then ((spec_SquareOf.f t102).bind fun t108 => ((impl_TraceOf.f k t108).bind fun t109 => (laws_FnEquations.j0 k l1 t102 t103 t104 (t109 != t104)))) else (laws_FnEquations.j0 k l1 t102 t103 t104 true))))) else (laws_FnEquations.j0 k l1 t102 t103 t104 true)))))) = some r := by rw [if_neg (show ¬ (false = true) by decide)] at H; exact H
    clear H
    have H := H1
    clear H1
    replace H := Option.bind_eq_some_iff.mp H
    obtain ⟨t102, A50, H⟩ := H
    replace H : ((spec_A2Nim.f k l1).bind fun t103 => ((impl_TraceOf.f k t102).bind fun t104 => ((spec_TraceOf.f k t102).bind fun t105 => (if t104 = t105 then (if t104 > 1 then (laws_FnEquations.j0 k l1 t102 t103 t104 true) else ((impl_TraceOf.f k (Go.bits .xor .u16 t102 t103)).bind fun t106 => ((spec_TraceOf.f k t103).bind fun t107 => (if t106 = (Go.bits .xor .u16 t104 t107) then ((spec_SquareOf.f t102).bind fun t108 => ((impl_TraceOf.f k t108).bind fun t109 => (laws_FnEquations.j0 k l1 t102 t103 t104 (t109 != t104)))) else (laws_FnEquations.j0 k l1 t102 t103 t104 true))))) else (laws_FnEquations.j0 k l1 t102 t103 t104 true))))) = some r := H
    have A5 := Aside0.mk A50
    clear A50
    replace H := Option.bind_eq_some_iff.mp H
    obtain ⟨t103, A60, H⟩ := H
    replace H : ((impl_TraceOf.f k t102).bind fun t104 => ((spec_TraceOf.f k t102).bind fun t105 => (if t104 = t105 then (if t104 > 1 then (laws_FnEquations.j0 k l1 t102 t103 t104 true) else ((impl_TraceOf.f k (Go.bits .xor .u16 t102 t103)).bind fun t106 => ((spec_TraceOf.f k t103).bind fun t107 => (if t106 = (Go.bits .xor .u16 t104 t107) then ((spec_SquareOf.f t102).bind fun t108 => ((impl_TraceOf.f k t108).bind fun t109 => (laws_FnEquations.j0 k l1 t102 t103 t104 (t109 != t104)))) else (laws_FnEquations.j0 k l1 t102 t103 t104 true))))) else (laws_FnEquations.j0 k l1 t102 t103 t104 true)))) = some r := H
    have A6 := Aside0.mk A60
    clear A60
    replace H := Option.bind_eq_some_iff.mp H
    obtain ⟨t104, A70, H⟩ := H
    replace H : ((spec_TraceOf.f k t102).bind fun t105 => (if t104 = t105 then (if t104 > 1 then (laws_FnEquations.j0 k l1 t102 t103 t104 true) else ((impl_TraceOf.f k (Go.bits .xor .u16 t102 t103)).bind fun t106 => ((spec_TraceOf.f k t103).bind fun t107 => (if t106 = (Go.bits .xor .u16 t104 t107) then ((spec_SquareOf.f t102).bind fun t108 => ((impl_TraceOf.f k t108).bind fun t109 => (laws_FnEquations.j0 k l1 t102 t103 t104 (t109 != t104)))) else (laws_FnEquations.j0 k l1 t102 t103 t104 true))))) else (laws_FnEquations.j0 k l1 t102 t103 t104 true))) = some r := H
    have A7 := Aside0.mk A70
    clear A70
    have HC8 := Aside0.mk H
    clear H
    go_enter Try.func9, Try.ntmps9
    go_upto_region 6 with (first | ((with_reducible refine gate_callee (f := 21) rfl ?_); refine goesL_ (some 30) rfl rfl Try.func21 (by kernel_rfl) rfl #[.slice A0 l0.length c0, .slice A1 l1.length c1] rfl (by (try simp only [List.map_toArray, List.map_cons, List.map_nil]); first | done | rfl | (simp only [List.length_drop, List.length_take]; rfl)) ?_; (with_reducible refine (laws_a2Long.calls _ _ l0 _ _ l1 false _ ?side1 ?side2 ?side3 ?side4 A3.out).mono ?_); (case side1 => repeat (first | exact HR0.out | (with_reducible refine Kd.C_alloc ?_ _) | (with_reducible refine Kd.C_drewN ?_ _) | (with_reducible refine Kd.C_drew ?_))); (case side2 => exact HC0.out); (case side3 => repeat (first | exact HR1.out | (with_reducible refine Kd.C_alloc ?_ _) | (with_reducible refine Kd.C_drewN ?_ _) | (with_reducible refine Kd.C_drew ?_))); (case side4 => exact HC1.out); rintro e w' ⟨rfl, ⟨nd, rfl⟩⟩; refine ⟨_, rfl, ?_⟩) | ((with_reducible refine gate_callee (f := 50) rfl ?_); refine goesL_ (some 32) rfl rfl Try.func50 (by kernel_rfl) rfl #[.slice A0 l0.length c0] rfl (by (try simp only [List.map_toArray, List.map_cons, List.map_nil]); first | done | rfl | (simp only [List.length_drop, List.length_take]; rfl)) ?_; (with_reducible refine (spec_A2Nim.calls k _ _ l0 t102 _ ?side1 ?side2 A5.out).mono ?_); (case side1 => repeat (first | exact HR0.out | (with_reducible refine Kd.C_alloc ?_ _) | (with_reducible refine Kd.C_drewN ?_ _) | (with_reducible refine Kd.C_drew ?_))); (case side2 => exact HC0.out); rintro e w9 ⟨rfl, hb⟩; refine ⟨_, rfl, ?_⟩; have n0_ := Aside0.mk (below_step (by repeat (first | (with_reducible first | exact HB.out | apply below_alloc | apply pw_below_drewN | apply below_drew1) | exact HB.out)) hb); clear HB; have HB := n0_; clear n0_; (try clear hb); (try clear hb2); (try clear hk); (try clear hi)) | ((with_reducible refine gate_callee (f := 50) rfl ?_); refine goesL_ (some 34) rfl rfl Try.func50 (by kernel_rfl) rfl #[.slice A1 l1.length c1] rfl (by (try simp only [List.map_toArray, List.map_cons, List.map_nil]); first | done | rfl | (simp only [List.length_drop, List.length_take]; rfl)) ?_; (with_reducible refine (spec_A2Nim.calls k _ _ l1 t103 _ ?side1 ?side2 A6.out).mono ?_); (case side1 => repeat (first | exact (Kd.C_below HR1.out HB.out) | (with_reducible refine Kd.C_alloc ?_ _) | (with_reducible refine Kd.C_drewN ?_ _) | (with_reducible refine Kd.C_drew ?_))); (case side2 => exact HC1.out); rintro e w10 ⟨rfl, hb⟩; refine ⟨_, rfl, ?_⟩; have n0_ := Aside0.mk (below_step (by repeat (first | (with_reducible first | exact HB.out | apply below_alloc | apply pw_below_drewN | apply below_drew1) | exact HB.out)) hb); clear HB; have HB := n0_; clear n0_; (try clear hb); (try clear hb2); (try clear hk); (try clear hi)) | ((with_reducible refine gate_callee (f := 74) rfl ?_); refine goesL_ (some 36) rfl rfl Try.func74 (by kernel_rfl) rfl #[.int .u16 t102] rfl (by (try simp only [List.map_toArray, List.map_cons, List.map_nil]); first | done | rfl | (simp only [List.length_drop, List.length_take]; rfl)) ?_; (with_reducible refine (impl_TraceOf.calls k t102 t104 _ A7.out).mono ?_); rintro e w' ⟨rfl, ⟨nd, rfl⟩⟩; refine ⟨_, rfl, ?_⟩))
    (try simp only [Act.put, List.setIfInBounds_toArray, List.set_cons_zero, List.set_cons_succ])
    go_cut [62] (fun v62 wc => ∃ (kq : Nat) (x62_7 : Bool), v62 = .bool x62_7 ∧ Aside0 (laws_FnEquations.j0 kq l1 t102 t103 t104 x62_7 = some r) ∧ Aside0 (kq ≤ k) ∧ Aside0 (Below w.heap.size w wc))
    case first =>
      have H := HC8.out
      clear HC8
      replace H := Option.bind_eq_some_iff.mp H
      obtain ⟨t105, A110, H⟩ := H
      replace H : (if t104 = t105 then (if t104 > 1 then (laws_FnEquations.j0 k l1 t102 t103 t104 true) else ((impl_TraceOf.f k (Go.bits .xor .u16 t102 t103)).bind fun t106 => ((spec_TraceOf.f k t103).bind fun t107 => (if t106 = (Go.bits .xor .u16 t104 t107) then ((spec_SquareOf.f t102).bind fun t108 => ((impl_TraceOf.f k t108).bind fun t109 => (laws_FnEquations.j0 k l1 t102 t103 t104 (t109 != t104)))) else (laws_FnEquations.j0 k l1 t102 t103 t104 true))))) else (laws_FnEquations.j0 k l1 t102 t103 t104 true)) = some r := H
      have A11 := Aside0.mk A110
      clear A110
      by_cases c12 : t104 = t105
      · rw [if_pos c12] at H
        have c12b0 : (t104 == t105) = true := beq_iff_eq.mpr c12
        have c12b1 : (t104 != t105) = false := bne_eq_false_iff_eq.mpr c12
        clear c12
        (first | rw [c12b0] | (simp only [i64_w, i32_w]; rw [c12b0]) | skip)
        by_cases c13 : t104 > 1
        · rw [if_pos c13] at H
          have c13b0 : decide (1 < t104) = true := decide_eq_true c13
          clear c13
          as_aux_lemma =>
            have H' := Aside0.mk H
            clear H
            go_wp2_with (first | ((with_reducible refine gate_callee (f := 75) rfl ?_); refine goesL_ (some 39) rfl rfl Try.func75 (by kernel_rfl) rfl #[.int .u16 t102] rfl (by (try simp only [List.map_toArray, List.map_cons, List.map_nil]); first | done | rfl | (simp only [List.length_drop, List.length_take]; rfl)) ?_; (with_reducible refine (spec_TraceOf.calls k t102 t105 _ A11.out).mono ?_); rintro e w' ⟨rfl, ⟨nd, rfl⟩⟩; refine ⟨_, rfl, ?_⟩))
            go_meet
            case rel => exact ⟨_, (true), (by first | rfl | (simp; done) | (simp [*]; done)), H', ⟨by first | omega | exact Nat.le_refl _⟩, ⟨by repeat (first | (with_reducible first | exact HB.out | apply below_alloc | apply pw_below_drewN | apply below_drew1) | exact HB.out)⟩⟩
        · rw [if_neg c13] at H
          have c13b0 : decide (1 < t104) = false := decide_eq_false c13
          clear c13
          replace H := Option.bind_eq_some_iff.mp H
          obtain ⟨t106, A140, H⟩ := H
          replace H : ((spec_TraceOf.f k t103).bind fun t107 => (if t106 = (Go.bits .xor .u16 t104 t107) then ((spec_SquareOf.f t102).bind fun t108 => ((impl_TraceOf.f k t108).bind fun t109 => (laws_FnEquations.j0 k l1 t102 t103 t104 (t109 != t104)))) else (laws_FnEquations.j0 k l1 t102 t103 t104 true))) = some r := H
          have A14 := Aside0.mk A140
          clear A140
          replace H := Option.bind_eq_some_iff.mp H
          obtain ⟨t107, A150, H⟩ := H
          replace H : (if t106 = (Go.bits .xor .u16 t104 t107) then ((spec_SquareOf.f t102).bind fun t108 => ((impl_TraceOf.f k t108).bind fun t109 => (laws_FnEquations.j0 k l1 t102 t103 t104 (t109 != t104)))) else (laws_FnEquations.j0 k l1 t102 t103 t104 true)) = some r := H
          have A15 := Aside0.mk A150
          clear A150
          by_cases c16 : t106 = (Go.bits .xor .u16 t104 t107)
          · rw [if_pos c16] at H
            have c16b0 : (t106 == (Go.bits .xor .u16 t104 t107)) = true := beq_iff_eq.mpr c16
            have c16b1 : (t106 != (Go.bits .xor .u16 t104 t107)) = false := bne_eq_false_iff_eq.mpr c16
            clear c16
            replace H := Option.bind_eq_some_iff.mp H
            obtain ⟨t108, A170, H⟩ := H
            replace H : ((impl_TraceOf.f k t108).bind fun t109 => (laws_FnEquations.j0 k l1 t102 t103 t104 (t109 != t104))) = some r := H
            have A17 := Aside0.mk A170
            clear A170
            replace H := Option.bind_eq_some_iff.mp H
            obtain ⟨t109, A180, H⟩ := H
            replace H : (laws_FnEquations.j0 k l1 t102 t103 t104 (t109 != t104)) = some r := H
            have A18 := Aside0.mk A180
            clear A180
            as_aux_lemma =>
              have H' := Aside0.mk H
              clear H
              go_wp2_with (first | ((with_reducible refine gate_callee (f := 75) rfl ?_); refine goesL_ (some 39) rfl rfl Try.func75 (by kernel_rfl) rfl #[.int .u16 t102] rfl (by (try simp only [List.map_toArray, List.map_cons, List.map_nil]); first | done | rfl | (simp only [List.length_drop, List.length_take]; rfl)) ?_; (with_reducible refine (spec_TraceOf.calls k t102 t105 _ A11.out).mono ?_); rintro e w' ⟨rfl, ⟨nd, rfl⟩⟩; refine ⟨_, rfl, ?_⟩) | (go_at_call 74; (with_reducible refine (impl_TraceOf.calls k (Go.bits .xor .u16 t102 t103) t106 _ A14.out).mono ?_); rintro e w' ⟨rfl, ⟨nd, rfl⟩⟩) | (go_at_call 75; (with_reducible refine (spec_TraceOf.calls k t103 t107 _ A15.out).mono ?_); rintro e w' ⟨rfl, ⟨nd, rfl⟩⟩) | (go_at_call 76; (with_reducible refine (spec_SquareOf.calls t102 t108 _ A17.out).mono ?_); rintro e w' ⟨rfl, ⟨nd, rfl⟩⟩) | (go_at_call 74; (with_reducible refine (impl_TraceOf.calls k t108 t109 _ A18.out).mono ?_); rintro e w' ⟨rfl, ⟨nd, rfl⟩⟩))
              go_meet
              case rel => exact ⟨_, ((t109 != t104)), (by first | rfl | (simp; done) | (simp [*]; done)), H', ⟨by first | omega | exact Nat.le_refl _⟩, ⟨by repeat (first | (with_reducible first | exact HB.out | apply below_alloc | apply pw_below_drewN | apply below_drew1) | exact HB.out)⟩⟩
          · rw [if_neg c16] at H
            have c16b0 : (t106 == (Go.bits .xor .u16 t104 t107)) = false := beq_eq_false_iff_ne.mpr c16
            have c16b1 : (t106 != (Go.bits .xor .u16 t104 t107)) = true := bne_iff_ne.mpr c16
            as_aux_lemma =>
              have H' := Aside0.mk H
              clear H
              go_wp2_with (first | ((with_reducible refine gate_callee (f := 75) rfl ?_); refine goesL_ (some 39) rfl rfl Try.func75 (by kernel_rfl) rfl #[.int .u16 t102] rfl (by (try simp only [List.map_toArray, List.map_cons, List.map_nil]); first | done | rfl | (simp only [List.length_drop, List.length_take]; rfl)) ?_; (with_reducible refine (spec_TraceOf.calls k t102 t105 _ A11.out).mono ?_); rintro e w' ⟨rfl, ⟨nd, rfl⟩⟩; refine ⟨_, rfl, ?_⟩) | (go_at_call 74; (with_reducible refine (impl_TraceOf.calls k (Go.bits .xor .u16 t102 t103) t106 _ A14.out).mono ?_); rintro e w' ⟨rfl, ⟨nd, rfl⟩⟩) | (go_at_call 75; (with_reducible refine (spec_TraceOf.calls k t103 t107 _ A15.out).mono ?_); rintro e w' ⟨rfl, ⟨nd, rfl⟩⟩))
              go_meet
              case rel => exact ⟨_, (true), (by first | rfl | (simp; done) | (simp [*]; done)), H', ⟨by first | omega | exact Nat.le_refl _⟩, ⟨by repeat (first | (with_reducible first | exact HB.out | apply below_alloc | apply pw_below_drewN | apply below_drew1) | exact HB.out)⟩⟩
      · rw [if_neg c12] at H
        have c12b0 : (t104 == t105) = false := beq_eq_false_iff_ne.mpr c12
        have c12b1 : (t104 != t105) = true := bne_iff_ne.mpr c12
        (first | rw [c12b0] | (simp only [i64_w, i32_w]; rw [c12b0]) | skip)
        as_aux_lemma =>
          have H' := Aside0.mk H
          clear H
          go_wp2_with (first | ((with_reducible refine gate_callee (f := 75) rfl ?_); refine goesL_ (some 39) rfl rfl Try.func75 (by kernel_rfl) rfl #[.int .u16 t102] rfl (by (try simp only [List.map_toArray, List.map_cons, List.map_nil]); first | done | rfl | (simp only [List.length_drop, List.length_take]; rfl)) ?_; (with_reducible refine (spec_TraceOf.calls k t102 t105 _ A11.out).mono ?_); rintro e w' ⟨rfl, ⟨nd, rfl⟩⟩; refine ⟨_, rfl, ?_⟩))
          go_meet
          case rel => exact ⟨_, (true), (by first | rfl | (simp; done) | (simp [*]; done)), H', ⟨by first | omega | exact Nat.le_refl _⟩, ⟨by repeat (first | (with_reducible first | exact HB.out | apply below_alloc | apply pw_below_drewN | apply below_drew1) | exact HB.out)⟩⟩
    case rest =>
      clear HC8
      try clear c1
      try clear c2
      try clear p2
      try clear c4
      try clear c5
      try clear c7
      try clear c9
      try clear c12
      try clear c12b0
      try clear c12b1
      try clear c13
      try clear c13b0
      try clear c16
      try clear c16b0
      try clear c16b1
      obtain ⟨kq, x62_7, rfl, HA, HJ7, HB⟩ := hcut
      cases kq with
      | zero => exact absurd HA.out (by simp [laws_FnEquations.j0])
      | succ kj7 =>
        have H := HA.out
        clear HA
        simp only [laws_FnEquations.j0] at H
        by_cases c19 : x62_7 = true
        · subst c19
          have H1 : (none) = some r := by rw [if_pos rfl] at H; exact H
          clear H
          have H := H1
          clear H1
          exact absurd H (by simp)
        · replace c19 := Bool.eq_false_iff.mpr c19
          subst c19
          have H1 : ((impl_ConjugatesOf.f kj7 t102).bind fun t110 => ((spec_ConjugatesOf.f kj7 t102).bind fun t113 => ((spec_A2SameNims.f kj7 t110 t113).bind fun t116 => (if t116 = true then (if (t113.length : Int) = 0 then (none) else (if ((16 : Int) % (t113.length : Int)) = 0 then (if 0 < (t113.length : Int) then (if (rd t113 0) = t102 then (if 0 ≤ (wrap64 ((t113.length : Int) - 1)) then (if (wrap64 ((t113.length : Int) - 1)) < (t113.length : Int) then ((spec_SquareOf.f (rd t113 (wrap64 ((t113.length : Int) - 1)))).bind fun t119 => (laws_FnEquations.j1 kj7 l1 t102 t103 t104 (t119 != t102))) else (none)) else (none)) else (laws_FnEquations.j1 kj7 l1 t102 t103 t104 true)) else (none)) else (laws_FnEquations.j1 kj7 l1 t102 t103 t104 true))) else (laws_FnEquations.j1 kj7 l1 t102 t103 t104 true))))) = some r := by rw [if_neg (show ¬ (false = true) by decide)] at H; exact H
          clear H
          have H := H1
          clear H1
          replace H := Option.bind_eq_some_iff.mp H
          obtain ⟨t110, A200, H⟩ := H
          replace H : ((spec_ConjugatesOf.f kj7 t102).bind fun t113 => ((spec_A2SameNims.f kj7 t110 t113).bind fun t116 => (if t116 = true then (if (t113.length : Int) = 0 then (none) else (if ((16 : Int) % (t113.length : Int)) = 0 then (if 0 < (t113.length : Int) then (if (rd t113 0) = t102 then (if 0 ≤ (wrap64 ((t113.length : Int) - 1)) then (if (wrap64 ((t113.length : Int) - 1)) < (t113.length : Int) then ((spec_SquareOf.f (rd t113 (wrap64 ((t113.length : Int) - 1)))).bind fun t119 => (laws_FnEquations.j1 kj7 l1 t102 t103 t104 (t119 != t102))) else (none)) else (none)) else (laws_FnEquations.j1 kj7 l1 t102 t103 t104 true)) else (none)) else (laws_FnEquations.j1 kj7 l1 t102 t103 t104 true))) else (laws_FnEquations.j1 kj7 l1 t102 t103 t104 true)))) = some r := H
          have A20 := Aside0.mk A200
          clear A200
          replace H := Option.bind_eq_some_iff.mp H
          obtain ⟨t113, A210, H⟩ := H
          replace H : ((spec_A2SameNims.f kj7 t110 t113).bind fun t116 => (if t116 = true then (if (t113.length : Int) = 0 then (none) else (if ((16 : Int) % (t113.length : Int)) = 0 then (if 0 < (t113.length : Int) then (if (rd t113 0) = t102 then (if 0 ≤ (wrap64 ((t113.length : Int) - 1)) then (if (wrap64 ((t113.length : Int) - 1)) < (t113.length : Int) then ((spec_SquareOf.f (rd t113 (wrap64 ((t113.length : Int) - 1)))).bind fun t119 => (laws_FnEquations.j1 kj7 l1 t102 t103 t104 (t119 != t102))) else (none)) else (none)) else (laws_FnEquations.j1 kj7 l1 t102 t103 t104 true)) else (none)) else (laws_FnEquations.j1 kj7 l1 t102 t103 t104 true))) else (laws_FnEquations.j1 kj7 l1 t102 t103 t104 true))) = some r := H
          have A21 := Aside0.mk A210
          clear A210
          have HC22 := Aside0.mk H
          clear H
          go_upto_region 10 with (first | ((with_reducible refine gate_callee (f := 77) rfl ?_); refine goesL_ (some 64) rfl rfl Try.func77 (by kernel_rfl) rfl #[.int .u16 t102] rfl (by (try simp only [List.map_toArray, List.map_cons, List.map_nil]); first | done | rfl | (simp only [List.length_drop, List.length_take]; rfl)) ?_; (with_reducible refine (impl_ConjugatesOf.calls kj7 t102 t110 _ A20.out).mono ?_); rintro e w23 ⟨v111, rfl, ho0, hb⟩; refine ⟨_, rfl, ?_⟩; have n0_ := Aside0.mk (Kd.R_lower ho0 (below_size (by repeat (first | (with_reducible first | exact HB.out | apply below_alloc | apply pw_below_drewN | apply below_drew1) | exact HB.out)))); have n1_ := Aside0.mk (below_step (by repeat (first | (with_reducible first | exact HB.out | apply below_alloc | apply pw_below_drewN | apply below_drew1) | exact HB.out)) hb); clear HB; have HO112 := n0_; have HB := n1_; clear n0_ n1_; (try clear hb); (try clear hb2); (try clear hk); (try clear hi); (try clear ho0)) | ((with_reducible refine gate_callee (f := 78) rfl ?_); refine goesL_ (some 66) rfl rfl Try.func78 (by kernel_rfl) rfl #[.int .u16 t102] rfl (by (try simp only [List.map_toArray, List.map_cons, List.map_nil]); first | done | rfl | (simp only [List.length_drop, List.length_take]; rfl)) ?_; (with_reducible refine (spec_ConjugatesOf.calls kj7 t102 t113 _ A21.out).mono ?_); rintro e w24 ⟨v114, rfl, ho0, hb⟩; refine ⟨_, rfl, ?_⟩; have n0_ := Aside0.mk (Kd.R_elder' (by (with_reducible repeat (first | apply Kd.R_alloc | apply Kd.R_drewN | apply Kd.R_drew)); exact HO112.out) (Kd.R_base ho0) hb); have n1_ := Aside0.mk (Kd.R_lower (Kd.R_new' ho0 (Kd.R_lt (by (with_reducible repeat (first | apply Kd.R_alloc | apply Kd.R_drewN | apply Kd.R_drew)); exact HO112.out))) (below_size (by repeat (first | (with_reducible first | exact HB.out | apply below_alloc | apply pw_below_drewN | apply below_drew1) | exact HB.out)))); have n2_ := Aside0.mk (below_step (by repeat (first | (with_reducible first | exact HB.out | apply below_alloc | apply pw_below_drewN | apply below_drew1) | exact HB.out)) hb); clear HO112; clear HB; have HO112 := n0_; have HO115 := n1_; have HB := n2_; clear n0_ n1_ n2_; (try clear hb); (try clear hb2); (try clear hk); (try clear hi); (try clear ho0)))
          (try simp only [Act.put, List.setIfInBounds_toArray, List.set_cons_zero, List.set_cons_succ])
          go_cut [94] (fun v94 wc => ∃ (kq : Nat) (x94_21 : Bool), v94 = .bool x94_21 ∧ Aside0 (laws_FnEquations.j1 kq l1 t102 t103 t104 x94_21 = some r) ∧ Aside0 (kq ≤ kj7) ∧ Aside0 (Below w.heap.size w wc))
          case first =>
            have H := HC22.out
            clear HC22
            replace H := Option.bind_eq_some_iff.mp H
            obtain ⟨t116, A250, H⟩ := H
            replace H : (if t116 = true then (if (t113.length : Int) = 0 then (none) else (if ((16 : Int) % (t113.length : Int)) = 0 then (if 0 < (t113.length : Int) then (if (rd t113 0) = t102 then (if 0 ≤ (wrap64 ((t113.length : Int) - 1)) then (if (wrap64 ((t113.length : Int) - 1)) < (t113.length : Int) then ((spec_SquareOf.f (rd t113 (wrap64 ((t113.length : Int) - 1)))).bind fun t119 => (laws_FnEquations.j1 kj7 l1 t102 t103 t104 (t119 != t102))) else (none)) else (none)) else (laws_FnEquations.j1 kj7 l1 t102 t103 t104 true)) else (none)) else (laws_FnEquations.j1 kj7 l1 t102 t103 t104 true))) else (laws_FnEquations.j1 kj7 l1 t102 t103 t104 true)) = some r := H
            have A25 := Aside0.mk A250
            clear A250
            by_cases c26 : t116 = true
            · subst c26
              have H1 : (if (t113.length : Int) = 0 then (none) else (if ((16 : Int) % (t113.length : Int)) = 0 then (if 0 < (t113.length : Int) then (if (rd t113 0) = t102 then (if 0 ≤ (wrap64 ((t113.length : Int) - 1)) then (if (wrap64 ((t113.length : Int) - 1)) < (t113.length : Int) then ((spec_SquareOf.f (rd t113 (wrap64 ((t113.length : Int) - 1)))).bind fun t119 => (laws_FnEquations.j1 kj7 l1 t102 t103 t104 (t119 != t102))) else (none)) else (none)) else (laws_FnEquations.j1 kj7 l1 t102 t103 t104 true)) else (none)) else (laws_FnEquations.j1 kj7 l1 t102 t103 t104 true))) = some r := by rw [if_pos rfl] at H; exact H
              clear H
              have H := H1
              clear H1
              by_cases c27 : (t113.length : Int) = 0
              · rw [if_pos c27] at H
                exact absurd H (by simp)
              · rw [if_neg c27] at H
                have c27b0 : ((t113.length : Int) == 0) = false := beq_eq_false_iff_ne.mpr c27
                have c27b1 : ((t113.length : Int) != 0) = true := bne_iff_ne.mpr c27
                have c27b2 : ¬ (t113 = []) := fun h_ => c27 (by rw [h_]; rfl)
                (first | rw [c27b0] | (simp only [i64_w, i32_w]; rw [c27b0]) | skip)
                by_cases c28 : ((16 : Int) % (t113.length : Int)) = 0
                · rw [if_pos c28] at H
                  have c28b0 : (((16 : Int) % (t113.length : Int)) == 0) = true := beq_iff_eq.mpr c28
                  have c28b1 : (((16 : Int) % (t113.length : Int)) != 0) = false := bne_eq_false_iff_eq.mpr c28
                  clear c28
                  by_cases c29 : 0 < (t113.length : Int)
                  · rw [if_pos c29] at H
                    have c29b0 : decide (0 < (t113.length : Int)) = true := decide_eq_true c29
                    have c29b1 : decide (0 < t113.length) = true := decide_eq_true (by omega)
                    clear c29
                    by_cases c30 : (rd t113 0) = t102
                    · rw [if_pos c30] at H
                      have c30b0 : ((rd t113 0) == t102) = true := beq_iff_eq.mpr c30
                      have c30b1 : ((rd t113 0) != t102) = false := bne_eq_false_iff_eq.mpr c30
                      clear c30
                      obtain ⟨ji31, hji31⟩ : ∃ j_ : Int, (wrap64 ((t113.length : Int) - 1)) = j_ := ⟨_, rfl⟩
                      replace H : (if 0 ≤ (ji31) then (if (ji31) < (t113.length : Int) then ((spec_SquareOf.f (rd t113 (ji31))).bind fun t119 => (laws_FnEquations.j1 kj7 l1 t102 t103 t104 (t119 != t102))) else (none)) else (none)) = some r := by first | (rw [hji31] at H; exact H) | (simp only [hji31] at H ⊢; exact H)
                      (try rw [hji31] at A25)
                      have hji31w : (IntKind.i64.wrap ((t113.length : Int) - 1)) = ji31 := (i64_w _).trans hji31
                      by_cases c32 : 0 ≤ (ji31)
                      · rw [if_pos c32] at H
                        have c32b0 : decide (0 ≤ (ji31)) = true := decide_eq_true c32
                        clear c32
                        by_cases c33 : (ji31) < (t113.length : Int)
                        · rw [if_pos c33] at H
                          have c33b0 : decide ((ji31) < (t113.length : Int)) = true := decide_eq_true c33
                          clear c33
                          replace H := Option.bind_eq_some_iff.mp H
                          obtain ⟨t119, A340, H⟩ := H
                          replace H : (laws_FnEquations.j1 kj7 l1 t102 t103 t104 (t119 != t102)) = some r := H
                          have A34 := Aside0.mk A340
                          clear A340
                          as_aux_lemma =>
                            have H' := Aside0.mk H
                            clear H
                            obtain ⟨Ao35, co35, eo35⟩ := Kd.R_slice HO112.out
                            subst eo35
                            obtain ⟨Ao36, co36, eo36⟩ := Kd.R_slice HO115.out
                            subst eo36
                            go_wp2_with (first | ((with_reducible refine gate_callee (f := 47) rfl ?_); refine goesL_ (some 69) rfl rfl Try.func47 (by kernel_rfl) rfl #[.slice Ao35 t110.length co35, .slice Ao36 t113.length co36] rfl (by (try simp only [List.map_toArray, List.map_cons, List.map_nil]); first | done | rfl | (simp only [List.length_drop, List.length_take]; rfl)) ?_; (with_reducible refine (spec_A2SameNims.calls kj7 _ _ t110 _ _ t113 true _ ?side1 ?side2 ?side3 ?side4 A25.out).mono ?_); (case side1 => repeat (first | exact (Kd.R_reads' HO112.out).2.2 | (with_reducible refine Kd.C_alloc ?_ _) | (with_reducible refine Kd.C_drewN ?_ _) | (with_reducible refine Kd.C_drew ?_))); (case side2 => exact (Kd.R_reads' HO112.out).2.1); (case side3 => repeat (first | exact (Kd.R_reads' HO115.out).2.2 | (with_reducible refine Kd.C_alloc ?_ _) | (with_reducible refine Kd.C_drewN ?_ _) | (with_reducible refine Kd.C_drew ?_))); (case side4 => exact (Kd.R_reads' HO115.out).2.1); rintro e w' ⟨rfl, ⟨nd, rfl⟩⟩; refine ⟨_, rfl, ?_⟩; have p117 : 0 ≤ (0 : Int) := (by omega); have q117 : 0 < (t113.length : Int) := of_decide_eq_true (by first | (with_reducible assumption) | assumption); obtain ⟨ad117, e117, hx117_0⟩ := Kd.at_int (Kd.R_reads' HO115.out).2.2 0 p117 q117; cases e117; have qi117 : (0 < t113.length) = True := eq_true (by omega); (try rw [show ((0 : Int)).toNat = 0 from rfl] at hx117_0); (try rw [Addr.add_zero'] at hx117_0); replace p117 := eq_true p117; replace q117 := eq_true q117; have p118 : 0 ≤ ((ji31) : Int) := of_decide_eq_true (by first | (with_reducible assumption) | assumption); have q118 : (ji31) < (t113.length : Int) := of_decide_eq_true (by first | (with_reducible assumption) | assumption); obtain ⟨ad118, e118, hx118_0⟩ := Kd.at_int (Kd.R_reads' HO115.out).2.2 (ji31) p118 q118; obtain rfl : ad117 = ad118 := (by injection e118); replace p118 := eq_true p118; replace q118 := eq_true q118) | (go_at_call 76; (with_reducible refine (spec_SquareOf.calls (rd t113 (ji31)) t119 _ A34.out).mono ?_); rintro e w' ⟨rfl, ⟨nd, rfl⟩⟩))
                            go_meet
                            case rel => exact ⟨_, ((t119 != t102)), (by first | rfl | (simp; done) | (simp [*]; done)), H', ⟨by have := HJ7.out; first | omega | exact Nat.le_refl _⟩, ⟨by repeat (first | (with_reducible first | exact HB.out | apply below_alloc | apply pw_below_drewN | apply below_drew1) | exact HB.out)⟩⟩
                        · rw [if_neg c33] at H
                          exact absurd H (by simp)
                      · rw [if_neg c32] at H
                        exact absurd H (by simp)
                    · rw [if_neg c30] at H
                      have c30b0 : ((rd t113 0) == t102) = false := beq_eq_false_iff_ne.mpr c30
                      have c30b1 : ((rd t113 0) != t102) = true := bne_iff_ne.mpr c30
                      as_aux_lemma =>
                        have H' := Aside0.mk H
                        clear H
                        obtain ⟨Ao37, co37, eo37⟩ := Kd.R_slice HO112.out
                        subst eo37
                        obtain ⟨Ao38, co38, eo38⟩ := Kd.R_slice HO115.out
                        subst eo38
                        go_wp2_with (first | ((with_reducible refine gate_callee (f := 47) rfl ?_); refine goesL_ (some 69) rfl rfl Try.func47 (by kernel_rfl) rfl #[.slice Ao37 t110.length co37, .slice Ao38 t113.length co38] rfl (by (try simp only [List.map_toArray, List.map_cons, List.map_nil]); first | done | rfl | (simp only [List.length_drop, List.length_take]; rfl)) ?_; (with_reducible refine (spec_A2SameNims.calls kj7 _ _ t110 _ _ t113 true _ ?side1 ?side2 ?side3 ?side4 A25.out).mono ?_); (case side1 => repeat (first | exact (Kd.R_reads' HO112.out).2.2 | (with_reducible refine Kd.C_alloc ?_ _) | (with_reducible refine Kd.C_drewN ?_ _) | (with_reducible refine Kd.C_drew ?_))); (case side2 => exact (Kd.R_reads' HO112.out).2.1); (case side3 => repeat (first | exact (Kd.R_reads' HO115.out).2.2 | (with_reducible refine Kd.C_alloc ?_ _) | (with_reducible refine Kd.C_drewN ?_ _) | (with_reducible refine Kd.C_drew ?_))); (case side4 => exact (Kd.R_reads' HO115.out).2.1); rintro e w' ⟨rfl, ⟨nd, rfl⟩⟩; refine ⟨_, rfl, ?_⟩; have p117 : 0 ≤ (0 : Int) := (by omega); have q117 : 0 < (t113.length : Int) := of_decide_eq_true (by first | (with_reducible assumption) | assumption); obtain ⟨ad117, e117, hx117_0⟩ := Kd.at_int (Kd.R_reads' HO115.out).2.2 0 p117 q117; cases e117; have qi117 : (0 < t113.length) = True := eq_true (by omega); (try rw [show ((0 : Int)).toNat = 0 from rfl] at hx117_0); (try rw [Addr.add_zero'] at hx117_0); replace p117 := eq_true p117; replace q117 := eq_true q117))
                        go_meet
                        case rel => exact ⟨_, (true), (by first | rfl | (simp; done) | (simp [*]; done)), H', ⟨by have := HJ7.out; first | omega | exact Nat.le_refl _⟩, ⟨by repeat (first | (with_reducible first | exact HB.out | apply below_alloc | apply pw_below_drewN | apply below_drew1) | exact HB.out)⟩⟩
                  · rw [if_neg c29] at H
                    exact absurd H (by simp)
                · rw [if_neg c28] at H
                  have c28b0 : (((16 : Int) % (t113.length : Int)) == 0) = false := beq_eq_false_iff_ne.mpr c28
                  have c28b1 : (((16 : Int) % (t113.length : Int)) != 0) = true := bne_iff_ne.mpr c28
                  as_aux_lemma =>
                    have H' := Aside0.mk H
                    clear H
                    obtain ⟨Ao39, co39, eo39⟩ := Kd.R_slice HO112.out
                    subst eo39
                    obtain ⟨Ao40, co40, eo40⟩ := Kd.R_slice HO115.out
                    subst eo40
                    go_wp2_with (first | ((with_reducible refine gate_callee (f := 47) rfl ?_); refine goesL_ (some 69) rfl rfl Try.func47 (by kernel_rfl) rfl #[.slice Ao39 t110.length co39, .slice Ao40 t113.length co40] rfl (by (try simp only [List.map_toArray, List.map_cons, List.map_nil]); first | done | rfl | (simp only [List.length_drop, List.length_take]; rfl)) ?_; (with_reducible refine (spec_A2SameNims.calls kj7 _ _ t110 _ _ t113 true _ ?side1 ?side2 ?side3 ?side4 A25.out).mono ?_); (case side1 => repeat (first | exact (Kd.R_reads' HO112.out).2.2 | (with_reducible refine Kd.C_alloc ?_ _) | (with_reducible refine Kd.C_drewN ?_ _) | (with_reducible refine Kd.C_drew ?_))); (case side2 => exact (Kd.R_reads' HO112.out).2.1); (case side3 => repeat (first | exact (Kd.R_reads' HO115.out).2.2 | (with_reducible refine Kd.C_alloc ?_ _) | (with_reducible refine Kd.C_drewN ?_ _) | (with_reducible refine Kd.C_drew ?_))); (case side4 => exact (Kd.R_reads' HO115.out).2.1); rintro e w' ⟨rfl, ⟨nd, rfl⟩⟩; refine ⟨_, rfl, ?_⟩))
                    go_meet
                    case rel => exact ⟨_, (true), (by first | rfl | (simp; done) | (simp [*]; done)), H', ⟨by have := HJ7.out; first | omega | exact Nat.le_refl _⟩, ⟨by repeat (first | (with_reducible first | exact HB.out | apply below_alloc | apply pw_below_drewN | apply below_drew1) | exact HB.out)⟩⟩
            · replace c26 := Bool.eq_false_iff.mpr c26
              subst c26
              have H1 : (laws_FnEquations.j1 kj7 l1 t102 t103 t104 true) = some r := by rw [if_neg (show ¬ (false = true) by decide)] at H; exact H
              clear H
              have H := H1
              clear H1
              as_aux_lemma =>
                have H' := Aside0.mk H
                clear H
                obtain ⟨Ao41, co41, eo41⟩ := Kd.R_slice HO112.out
                subst eo41
                obtain ⟨Ao42, co42, eo42⟩ := Kd.R_slice HO115.out
                subst eo42
                go_wp2_with (first | ((with_reducible refine gate_callee (f := 47) rfl ?_); refine goesL_ (some 69) rfl rfl Try.func47 (by kernel_rfl) rfl #[.slice Ao41 t110.length co41, .slice Ao42 t113.length co42] rfl (by (try simp only [List.map_toArray, List.map_cons, List.map_nil]); first | done | rfl | (simp only [List.length_drop, List.length_take]; rfl)) ?_; (with_reducible refine (spec_A2SameNims.calls kj7 _ _ t110 _ _ t113 false _ ?side1 ?side2 ?side3 ?side4 A25.out).mono ?_); (case side1 => repeat (first | exact (Kd.R_reads' HO112.out).2.2 | (with_reducible refine Kd.C_alloc ?_ _) | (with_reducible refine Kd.C_drewN ?_ _) | (with_reducible refine Kd.C_drew ?_))); (case side2 => exact (Kd.R_reads' HO112.out).2.1); (case side3 => repeat (first | exact (Kd.R_reads' HO115.out).2.2 | (with_reducible refine Kd.C_alloc ?_ _) | (with_reducible refine Kd.C_drewN ?_ _) | (with_reducible refine Kd.C_drew ?_))); (case side4 => exact (Kd.R_reads' HO115.out).2.1); rintro e w' ⟨rfl, ⟨nd, rfl⟩⟩; refine ⟨_, rfl, ?_⟩))
                go_meet
                case rel => exact ⟨_, (true), (by first | rfl | (simp; done) | (simp [*]; done)), H', ⟨by have := HJ7.out; first | omega | exact Nat.le_refl _⟩, ⟨by repeat (first | (with_reducible first | exact HB.out | apply below_alloc | apply pw_below_drewN | apply below_drew1) | exact HB.out)⟩⟩
          case rest =>
            clear HC22
            try clear c1
            try clear p1
            try clear q1
            try clear hx1
            try clear qi1
            try clear c2
            try clear p2
            try clear c3
            try clear c4
            try clear c5
            try clear p6
            try clear c7
            try clear c9
            try clear p11
            try clear q11
            try clear hx11
            try clear qi11
            try clear c12
            try clear c12b0
            try clear c12b1
            try clear c13
            try clear c13b0
            try clear c16
            try clear c16b0
            try clear c16b1
            try clear c19
            try clear c21
            try clear c26
            try clear c27
            try clear c27b0
            try clear c27b1
            try clear c27b2
            try clear c28
            try clear c28b0
            try clear c28b1
            try clear c29
            try clear c29b0
            try clear c29b1
            try clear c30
            try clear c30b0
            try clear c30b1
            try clear c32
            try clear c32b0
            try clear c33
            try clear c33b0
            try clear hx117_0
            try clear hx118_0
            try clear p117
            try clear p118
            try clear p2
            try clear q117
            try clear q118
            obtain ⟨kq, x94_21, rfl, HA, HJ21, HB⟩ := hcut
            cases kq with
            | zero => exact absurd HA.out (by simp [laws_FnEquations.j1])
            | succ kj21 =>
              have H := HA.out
              clear HA
              simp only [laws_FnEquations.j1] at H
              by_cases c43 : x94_21 = true
              · subst c43
                have H1 : (none) = some r := by rw [if_pos rfl] at H; exact H
                clear H
                have H := H1
                clear H1
                exact absurd H (by simp)
              · replace c43 := Bool.eq_false_iff.mpr c43
                subst c43
                have H1 : ((impl_HalfRoot.f kj21 t102).bind fun bt120 => ((spec_HalfRoot.f kj21 t102).bind fun bt122 => (if bt120.2 = bt122.2 then (if bt120.1 = bt122.1 then (if ((bt120.2 == 0) != (t104 == 0)) = true then (laws_FnEquations.j2 kj21 l1 t102 t103 true) else (if bt120.2 = 0 then ((spec_SquareOf.f bt122.1).bind fun t124 => (if (Go.bits .xor .u16 bt122.1 t124) = t102 then (laws_FnEquations.j2 kj21 l1 t102 t103 ((Int.tmod bt122.1 2) != 0)) else (laws_FnEquations.j2 kj21 l1 t102 t103 true))) else (laws_FnEquations.j2 kj21 l1 t102 t103 false))) else (laws_FnEquations.j2 kj21 l1 t102 t103 true)) else (laws_FnEquations.j2 kj21 l1 t102 t103 true)))) = some r := by rw [if_neg (show ¬ (false = true) by decide)] at H; exact H
                clear H
                have H := H1
                clear H1
                replace H := Option.bind_eq_some_iff.mp H
                obtain ⟨⟨t120, t121⟩, A440, H⟩ := H
                replace H : ((spec_HalfRoot.f kj21 t102).bind fun bt122 => (if t121 = bt122.2 then (if t120 = bt122.1 then (if ((t121 == 0) != (t104 == 0)) = true then (laws_FnEquations.j2 kj21 l1 t102 t103 true) else (if t121 = 0 then ((spec_SquareOf.f bt122.1).bind fun t124 => (if (Go.bits .xor .u16 bt122.1 t124) = t102 then (laws_FnEquations.j2 kj21 l1 t102 t103 ((Int.tmod bt122.1 2) != 0)) else (laws_FnEquations.j2 kj21 l1 t102 t103 true))) else (laws_FnEquations.j2 kj21 l1 t102 t103 false))) else (laws_FnEquations.j2 kj21 l1 t102 t103 true)) else (laws_FnEquations.j2 kj21 l1 t102 t103 true))) = some r := H
                have A44 := Aside0.mk A440
                clear A440
                replace H := Option.bind_eq_some_iff.mp H
                obtain ⟨⟨t122, t123⟩, A450, H⟩ := H
                replace H : (if t121 = t123 then (if t120 = t122 then (if ((t121 == 0) != (t104 == 0)) = true then (laws_FnEquations.j2 kj21 l1 t102 t103 true) else (if t121 = 0 then ((spec_SquareOf.f t122).bind fun t124 => (if (Go.bits .xor .u16 t122 t124) = t102 then (laws_FnEquations.j2 kj21 l1 t102 t103 ((Int.tmod t122 2) != 0)) else (laws_FnEquations.j2 kj21 l1 t102 t103 true))) else (laws_FnEquations.j2 kj21 l1 t102 t103 false))) else (laws_FnEquations.j2 kj21 l1 t102 t103 true)) else (laws_FnEquations.j2 kj21 l1 t102 t103 true)) = some r := H
                have A45 := Aside0.mk A450
                clear A450
                have HC46 := Aside0.mk H
                clear H
                go_upto_region 14 with (first | ((with_reducible refine gate_callee (f := 20) rfl ?_); refine goesL_ (some 97) rfl rfl Try.func20 (by kernel_rfl) rfl #[.int .u16 t102] rfl (by (try simp only [List.map_toArray, List.map_cons, List.map_nil]); first | done | rfl | (simp only [List.length_drop, List.length_take]; rfl)) ?_; (with_reducible refine (impl_HalfRoot.calls kj21 t102 t120 t121 _ A44.out).mono ?_); rintro e w47 ⟨rfl, hb⟩; refine ⟨_, rfl, ?_⟩; have n0_ := Aside0.mk (below_step (by repeat (first | (with_reducible first | exact HB.out | apply below_alloc | apply pw_below_drewN | apply below_drew1) | exact HB.out)) hb); clear HB; have HB := n0_; clear n0_; (try clear hb); (try clear hb2); (try clear hk); (try clear hi)) | ((with_reducible refine gate_callee (f := 19) rfl ?_); refine goesL_ (some 102) rfl rfl Try.func19 (by kernel_rfl) rfl #[.int .u16 t102] rfl (by (try simp only [List.map_toArray, List.map_cons, List.map_nil]); first | done | rfl | (simp only [List.length_drop, List.length_take]; rfl)) ?_; (with_reducible refine (spec_HalfRoot.calls kj21 t102 t122 t123 _ A45.out).mono ?_); rintro e w48 ⟨rfl, hb⟩; refine ⟨_, rfl, ?_⟩; have n0_ := Aside0.mk (below_step (by repeat (first | (with_reducible first | exact HB.out | apply below_alloc | apply pw_below_drewN | apply below_drew1) | exact HB.out)) hb); clear HB; have HB := n0_; clear n0_; (try clear hb); (try clear hb2); (try clear hk); (try clear hi)))
                (try simp only [Act.put, List.setIfInBounds_toArray, List.set_cons_zero, List.set_cons_succ])
                go_cut [136] (fun v136 wc => ∃ (kq : Nat) (x136_45 : Bool), v136 = .bool x136_45 ∧ Aside0 (laws_FnEquations.j2 kq l1 t102 t103 x136_45 = some r) ∧ Aside0 (kq ≤ kj21) ∧ Aside0 (Below w.heap.size w wc))
                case first =>
                  have H := HC46.out
                  clear HC46
                  by_cases c49 : t121 = t123
                  · rw [if_pos c49] at H
                    have c49b0 : (t121 == t123) = true := beq_iff_eq.mpr c49
                    have c49b1 : (t121 != t123) = false := bne_eq_false_iff_eq.mpr c49
                    clear c49
                    (first | rw [c49b0] | (simp only [i64_w, i32_w]; rw [c49b0]) | skip)
                    by_cases c50 : t120 = t122
                    · rw [if_pos c50] at H
                      have c50b0 : (t120 == t122) = true := beq_iff_eq.mpr c50
                      have c50b1 : (t120 != t122) = false := bne_eq_false_iff_eq.mpr c50
                      clear c50
                      by_cases c51 : ((t121 == 0) != (t104 == 0)) = true
                      · rw [if_pos c51] at H
                        have c51b0 : ((t121 == 0) != (t104 == 0)) = true := c51
                        (try (have c51b1 : decide ((t121 == 0) = (t104 == 0)) = false := by simpa using c51))
                        (try (have c51b2 : ((t121 == 0) == (t104 == 0)) = false := by simpa using c51))
                        (try (have c51b3 : ¬ ((t121 == 0) = (t104 == 0)) := by simpa using c51))
                        clear c51
                        as_aux_lemma =>
                          have H' := Aside0.mk H
                          clear H
                          go_wp2
                          go_meet
                          case rel => exact ⟨_, (true), (by first | rfl | (simp; done) | (simp [*]; done)), H', ⟨by have := HJ7.out; have := HJ21.out; first | omega | exact Nat.le_refl _⟩, ⟨by repeat (first | (with_reducible first | exact HB.out | apply below_alloc | apply pw_below_drewN | apply below_drew1) | exact HB.out)⟩⟩
                      · rw [if_neg c51] at H
                        have c51b0 : ((t121 == 0) != (t104 == 0)) = false := by simpa using c51
                        (try (have c51b1 : decide ((t121 == 0) = (t104 == 0)) = true := by simpa using c51))
                        (try (have c51b2 : ((t121 == 0) == (t104 == 0)) = true := by simpa using c51))
                        clear c51
                        by_cases c52 : t121 = 0
                        · rw [if_pos c52] at H
                          have c52b0 : (t121 == 0) = true := beq_iff_eq.mpr c52
                          have ct104_ : (t104 == 0) = true := by have h_ := c51b0; rw [c52b0] at h_; revert h_; cases (t104 == 0) <;> simp
                          have c52b1 : (t121 != 0) = false := bne_eq_false_iff_eq.mpr c52
                          clear c52
                          replace H := Option.bind_eq_some_iff.mp H
                          obtain ⟨t124, A530, H⟩ := H
                          replace H : (if (Go.bits .xor .u16 t122 t124) = t102 then (laws_FnEquations.j2 kj21 l1 t102 t103 ((Int.tmod t122 2) != 0)) else (laws_FnEquations.j2 kj21 l1 t102 t103 true)) = some r := H
                          have A53 := Aside0.mk A530
                          clear A530
                          by_cases c54 : (Go.bits .xor .u16 t122 t124) = t102
                          · rw [if_pos c54] at H
                            have c54b0 : ((Go.bits .xor .u16 t122 t124) == t102) = true := beq_iff_eq.mpr c54
                            have c54b1 : ((Go.bits .xor .u16 t122 t124) != t102) = false := bne_eq_false_iff_eq.mpr c54
                            clear c54
                            as_aux_lemma =>
                              have H' := Aside0.mk H
                              clear H
                              go_wp2_with (first | (go_at_call 76; (with_reducible refine (spec_SquareOf.calls t122 t124 _ A53.out).mono ?_); rintro e w' ⟨rfl, ⟨nd, rfl⟩⟩))
                              go_meet
                              case rel => exact ⟨_, (((Int.tmod t122 2) != 0)), (by first | rfl | (simp; done) | (simp [*]; done)), H', ⟨by have := HJ7.out; have := HJ21.out; first | omega | exact Nat.le_refl _⟩, ⟨by repeat (first | (with_reducible first | exact HB.out | apply below_alloc | apply pw_below_drewN | apply below_drew1) | exact HB.out)⟩⟩
                          · rw [if_neg c54] at H
                            have c54b0 : ((Go.bits .xor .u16 t122 t124) == t102) = false := beq_eq_false_iff_ne.mpr c54
                            have c54b1 : ((Go.bits .xor .u16 t122 t124) != t102) = true := bne_iff_ne.mpr c54
                            as_aux_lemma =>
                              have H' := Aside0.mk H
                              clear H
                              go_wp2_with (first | (go_at_call 76; (with_reducible refine (spec_SquareOf.calls t122 t124 _ A53.out).mono ?_); rintro e w' ⟨rfl, ⟨nd, rfl⟩⟩))
                              go_meet
                              case rel => exact ⟨_, (true), (by first | rfl | (simp; done) | (simp [*]; done)), H', ⟨by have := HJ7.out; have := HJ21.out; first | omega | exact Nat.le_refl _⟩, ⟨by repeat (first | (with_reducible first | exact HB.out | apply below_alloc | apply pw_below_drewN | apply below_drew1) | exact HB.out)⟩⟩
                        · rw [if_neg c52] at H
                          have c52b0 : (t121 == 0) = false := beq_eq_false_iff_ne.mpr c52
                          have ct104_ : (t104 == 0) = false := by have h_ := c51b0; rw [c52b0] at h_; revert h_; cases (t104 == 0) <;> simp
                          have c52b1 : (t121 != 0) = true := bne_iff_ne.mpr c52
                          as_aux_lemma =>
                            have H' := Aside0.mk H
                            clear H
                            go_wp2
                            go_meet
                            case rel => exact ⟨_, (false), (by first | rfl | (simp; done) | (simp [*]; done)), H', ⟨by have := HJ7.out; have := HJ21.out; first | omega | exact Nat.le_refl _⟩, ⟨by repeat (first | (with_reducible first | exact HB.out | apply below_alloc | apply pw_below_drewN | apply below_drew1) | exact HB.out)⟩⟩
                    · rw [if_neg c50] at H
                      have c50b0 : (t120 == t122) = false := beq_eq_false_iff_ne.mpr c50
                      have c50b1 : (t120 != t122) = true := bne_iff_ne.mpr c50
                      as_aux_lemma =>
                        have H' := Aside0.mk H
                        clear H
                        go_wp2
                        go_meet
                        case rel => exact ⟨_, (true), (by first | rfl | (simp; done) | (simp [*]; done)), H', ⟨by have := HJ7.out; have := HJ21.out; first | omega | exact Nat.le_refl _⟩, ⟨by repeat (first | (with_reducible first | exact HB.out | apply below_alloc | apply pw_below_drewN | apply below_drew1) | exact HB.out)⟩⟩
                  · rw [if_neg c49] at H
                    have c49b0 : (t121 == t123) = false := beq_eq_false_iff_ne.mpr c49
                    have c49b1 : (t121 != t123) = true := bne_iff_ne.mpr c49
                    (first | rw [c49b0] | (simp only [i64_w, i32_w]; rw [c49b0]) | skip)
                    as_aux_lemma =>
                      have H' := Aside0.mk H
                      clear H
                      go_wp2
                      go_meet
                      case rel => exact ⟨_, (true), (by first | rfl | (simp; done) | (simp [*]; done)), H', ⟨by have := HJ7.out; have := HJ21.out; first | omega | exact Nat.le_refl _⟩, ⟨by repeat (first | (with_reducible first | exact HB.out | apply below_alloc | apply pw_below_drewN | apply below_drew1) | exact HB.out)⟩⟩
                case rest =>
                  clear HC46
                  try clear c1
                  try clear p1
                  try clear q1
                  try clear hx1
                  try clear qi1
                  try clear c2
                  try clear p2
                  try clear c3
                  try clear c4
                  try clear c5
                  try clear p6
                  try clear c7
                  try clear c9
                  try clear p11
                  try clear q11
                  try clear hx11
                  try clear qi11
                  try clear c12
                  try clear c12b0
                  try clear c12b1
                  try clear c13
                  try clear c13b0
                  try clear c16
                  try clear c16b0
                  try clear c16b1
                  try clear c19
                  try clear c20
                  try clear c21
                  try clear c26
                  try clear c27
                  try clear c27b0
                  try clear c27b1
                  try clear c27b2
                  try clear c28
                  try clear c28b0
                  try clear c28b1
                  try clear c29
                  try clear c29b0
                  try clear c29b1
                  try clear c30
                  try clear c30b0
                  try clear c30b1
                  try clear c32
                  try clear c32b0
                  try clear c33
                  try clear c33b0
                  try clear c43
                  try clear c47
                  try clear c49
                  try clear c49b0
                  try clear c49b1
                  try clear c50
                  try clear c50b0
                  try clear c50b1
                  try clear c51
                  try clear c51b0
                  try clear c51b1
                  try clear c51b2
                  try clear c52
                  try clear c52b0
                  try clear c52b1
                  try clear c54
                  try clear c54b0
                  try clear c54b1
                  try clear hx117_0
                  try clear hx118_0
                  try clear p1
                  try clear p11
                  try clear p117
                  try clear p118
                  try clear p2
                  try clear p6
                  try clear q1
                  try clear q11
                  try clear q117
                  try clear q118
                  obtain ⟨kq, x136_45, rfl, HA, HJ45, HB⟩ := hcut
                  cases kq with
                  | zero => exact absurd HA.out (by simp [laws_FnEquations.j2])
                  | succ kj45 =>
                    have H := HA.out
                    clear HA
                    simp only [laws_FnEquations.j2] at H
                    by_cases c55 : x136_45 = true
                    · subst c55
                      have H1 : (none) = some r := by rw [if_pos rfl] at H; exact H
                      clear H
                      have H := H1
                      clear H1
                      exact absurd H (by simp)
                    · replace c55 := Bool.eq_false_iff.mpr c55
                      subst c55
                      have H1 : ((impl_QuadraticRoots.f kj45 t102 t103).bind fun t125 => ((spec_QuadraticRoots.f kj45 t102 t103).bind fun t128 => ((spec_A2SameNims.f kj45 t125 t128).bind fun t131 => (if t131 = true then (laws_FnEquations.l0 kj45 l1 t102 t103 t128 0) else (none))))) = some r := by rw [if_neg (show ¬ (false = true) by decide)] at H; exact H
                      clear H
                      have H := H1
                      clear H1
                      replace H := Option.bind_eq_some_iff.mp H
                      obtain ⟨t125, A560, H⟩ := H
                      replace H : ((spec_QuadraticRoots.f kj45 t102 t103).bind fun t128 => ((spec_A2SameNims.f kj45 t125 t128).bind fun t131 => (if t131 = true then (laws_FnEquations.l0 kj45 l1 t102 t103 t128 0) else (none)))) = some r := H
                      have A56 := Aside0.mk A560
                      clear A560
                      replace H := Option.bind_eq_some_iff.mp H
                      obtain ⟨t128, A570, H⟩ := H
                      replace H : ((spec_A2SameNims.f kj45 t125 t128).bind fun t131 => (if t131 = true then (laws_FnEquations.l0 kj45 l1 t102 t103 t128 0) else (none))) = some r := H
                      have A57 := Aside0.mk A570
                      clear A570
                      replace H := Option.bind_eq_some_iff.mp H
                      obtain ⟨t131, A580, H⟩ := H
                      replace H : (if t131 = true then (laws_FnEquations.l0 kj45 l1 t102 t103 t128 0) else (none)) = some r := H
                      have A58 := Aside0.mk A580
                      clear A580
                      by_cases c59 : t131 = true
                      · subst c59
                        have H1 : (laws_FnEquations.l0 kj45 l1 t102 t103 t128 0) = some r := by rw [if_pos rfl] at H; exact H
                        clear H
                        have H := H1
                        clear H1
                        have H' := Aside0.mk H
                        clear H
                        go_wp2_with (first | ((with_reducible refine gate_callee (f := 70) rfl ?_); refine goesL_ (some 139) rfl rfl Try.func70 (by kernel_rfl) rfl #[.int .u16 t102, .int .u16 t103] rfl (by (try simp only [List.map_toArray, List.map_cons, List.map_nil]); first | done | rfl | (simp only [List.length_drop, List.length_take]; rfl)) ?_; (with_reducible refine (impl_QuadraticRoots.calls kj45 t102 t103 t125 _ A56.out).mono ?_); rintro e w60 ⟨v126, rfl, ho0, hb⟩; refine ⟨_, rfl, ?_⟩; have n0_ := Aside0.mk (Kd.R_lower ho0 (below_size (by repeat (first | (with_reducible first | exact HB.out | apply below_alloc | apply pw_below_drewN | apply below_drew1) | exact HB.out)))); have n1_ := Aside0.mk (below_step (by repeat (first | (with_reducible first | exact HB.out | apply below_alloc | apply pw_below_drewN | apply below_drew1) | exact HB.out)) hb); clear HB; have HO127 := n0_; have HB := n1_; clear n0_ n1_; (try clear hb); (try clear hb2); (try clear hk); (try clear hi); (try clear ho0)) | ((with_reducible refine gate_callee (f := 69) rfl ?_); refine goesL_ (some 142) rfl rfl Try.func69 (by kernel_rfl) rfl #[.int .u16 t102, .int .u16 t103] rfl (by (try simp only [List.map_toArray, List.map_cons, List.map_nil]); first | done | rfl | (simp only [List.length_drop, List.length_take]; rfl)) ?_; (with_reducible refine (spec_QuadraticRoots.calls kj45 t102 t103 t128 _ A57.out).mono ?_); rintro e w61 ⟨v129, rfl, ho0, hb⟩; refine ⟨_, rfl, ?_⟩; have n0_ := Aside0.mk (Kd.R_elder' (by (with_reducible repeat (first | apply Kd.R_alloc | apply Kd.R_drewN | apply Kd.R_drew)); exact HO127.out) (Kd.R_base ho0) hb); have n1_ := Aside0.mk (Kd.R_lower (Kd.R_new' ho0 (Kd.R_lt (by (with_reducible repeat (first | apply Kd.R_alloc | apply Kd.R_drewN | apply Kd.R_drew)); exact HO127.out))) (below_size (by repeat (first | (with_reducible first | exact HB.out | apply below_alloc | apply pw_below_drewN | apply below_drew1) | exact HB.out)))); have n2_ := Aside0.mk (below_step (by repeat (first | (with_reducible first | exact HB.out | apply below_alloc | apply pw_below_drewN | apply below_drew1) | exact HB.out)) hb); clear HO127; clear HB; have HO127 := n0_; have HO130 := n1_; have HB := n2_; clear n0_ n1_ n2_; (try clear hb); (try clear hb2); (try clear hk); (try clear hi); (try clear ho0); obtain ⟨Ao62, co62, eo62⟩ := Kd.R_slice HO127.out; subst eo62; obtain ⟨Ao63, co63, eo63⟩ := Kd.R_slice HO130.out; subst eo63) | ((with_reducible refine gate_callee (f := 47) rfl ?_); refine goesL_ (some 145) rfl rfl Try.func47 (by kernel_rfl) rfl #[.slice Ao62 t125.length co62, .slice Ao63 t128.length co63] rfl (by (try simp only [List.map_toArray, List.map_cons, List.map_nil]); first | done | rfl | (simp only [List.length_drop, List.length_take]; rfl)) ?_; (with_reducible refine (spec_A2SameNims.calls kj45 _ _ t125 _ _ t128 true _ ?side1 ?side2 ?side3 ?side4 A58.out).mono ?_); (case side1 => repeat (first | exact (Kd.R_reads' HO127.out).2.2 | (with_reducible refine Kd.C_alloc ?_ _) | (with_reducible refine Kd.C_drewN ?_ _) | (with_reducible refine Kd.C_drew ?_))); (case side2 => exact (Kd.R_reads' HO127.out).2.1); (case side3 => repeat (first | exact (Kd.R_reads' HO130.out).2.2 | (with_reducible refine Kd.C_alloc ?_ _) | (with_reducible refine Kd.C_drewN ?_ _) | (with_reducible refine Kd.C_drew ?_))); (case side4 => exact (Kd.R_reads' HO130.out).2.1); rintro e w' ⟨rfl, ⟨nd, rfl⟩⟩; refine ⟨_, rfl, ?_⟩))
                        go_loopg [16] kj45 (fun kq v16 w' => ∃ (x16_4 : Int), v16 = .int .i64 x16_4 ∧ Aside0 (laws_FnEquations.l0 kq l1 t102 t103 t128 x16_4 = some r) ∧ Aside0 (kq ≤ kj45) ∧ Aside0 (Kd.R (Kd.int .u16) 36 w' w.heap.size (fun _ => True) (.slice Ao63 t128.length co63) t128) ∧ Aside0 (Below w.heap.size w w'))
                        case atStart => exact ⟨(0), (by first | rfl | (simp; done) | (simp [*]; done)), H', ⟨Nat.le_refl _⟩, ⟨by (with_reducible repeat (first | apply Kd.R_alloc | apply Kd.R_drewN | apply Kd.R_drew)); exact Kd.R_mono HO130.out (fun _ hk => trivial)⟩, ⟨by repeat (first | (with_reducible first | exact HB.out | apply below_alloc | apply pw_below_drewN | apply below_drew1) | exact HB.out)⟩⟩
                        case round =>
                          clear H'
                          try clear c1
                          try clear p1
                          try clear q1
                          try clear hx1
                          try clear qi1
                          try clear c2
                          try clear p2
                          try clear c3
                          try clear c4
                          try clear c5
                          try clear c6
                          try clear p6
                          try clear c7
                          try clear c9
                          try clear p11
                          try clear q11
                          try clear hx11
                          try clear qi11
                          try clear c12
                          try clear c12b0
                          try clear c12b1
                          try clear c13
                          try clear c13b0
                          try clear c16
                          try clear c16b0
                          try clear c16b1
                          try clear c19
                          try clear c20
                          try clear c21
                          try clear c26
                          try clear c27
                          try clear c27b0
                          try clear c27b1
                          try clear c27b2
                          try clear c28
                          try clear c28b0
                          try clear c28b1
                          try clear c29
                          try clear c29b0
                          try clear c29b1
                          try clear c30
                          try clear c30b0
                          try clear c30b1
                          try clear c32
                          try clear c32b0
                          try clear c33
                          try clear c33b0
                          try clear c43
                          try clear c47
                          try clear c49
                          try clear c49b0
                          try clear c49b1
                          try clear c50
                          try clear c50b0
                          try clear c50b1
                          try clear c51
                          try clear c51b0
                          try clear c51b1
                          try clear c51b2
                          try clear c52
                          try clear c52b0
                          try clear c52b1
                          try clear c54
                          try clear c54b0
                          try clear c54b1
                          try clear c55
                          try clear c59
                          try clear hx117_0
                          try clear hx118_0
                          try clear p1
                          try clear p11
                          try clear p117
                          try clear p118
                          try clear p2
                          try clear p6
                          try clear q1
                          try clear q11
                          try clear q117
                          try clear q118
                          obtain ⟨x16_4, rfl, HA, HK4, HO_15, HB⟩ := hrel
                          cases gk with
                          | zero => exact absurd HA.out (by simp [laws_FnEquations.l0])
                          | succ k4 =>
                            have H := HA.out
                            clear HA
                            simp only [laws_FnEquations.l0] at H
                            by_cases c64 : x16_4 < (t128.length : Int)
                            · rw [if_pos c64] at H
                              have c64b0 : decide (x16_4 < (t128.length : Int)) = true := decide_eq_true c64
                              clear c64
                              by_cases c65 : 0 ≤ x16_4
                              · rw [if_pos c65] at H
                                have c65b0 : decide (0 ≤ x16_4) = true := decide_eq_true c65
                                clear c65
                                replace H := Option.bind_eq_some_iff.mp H
                                obtain ⟨t133, A660, H⟩ := H
                                replace H : ((spec_TimesNim.f t102 (rd t128 x16_4)).bind fun t134 => (if (Go.bits .xor .u16 (Go.bits .xor .u16 t133 t134) t103) = 0 then (if x16_4 > 0 then (if 0 ≤ (wrap64 (x16_4 - 1)) then (if (wrap64 (x16_4 - 1)) < (t128.length : Int) then (if (rd t128 x16_4) ≤ (rd t128 (wrap64 (x16_4 - 1))) then (none) else (if 0 < (t128.length : Int) then (if (Go.bits .xor .u16 (rd t128 x16_4) (rd t128 0)) = t102 then (laws_FnEquations.l0 k4 l1 t102 t103 t128 (wrap64 (x16_4 + 1))) else (none)) else (none))) else (none)) else (none)) else (laws_FnEquations.l0 k4 l1 t102 t103 t128 (wrap64 (x16_4 + 1)))) else (none))) = some r := H
                                have A66 := Aside0.mk A660
                                clear A660
                                replace H := Option.bind_eq_some_iff.mp H
                                obtain ⟨t134, A670, H⟩ := H
                                replace H : (if (Go.bits .xor .u16 (Go.bits .xor .u16 t133 t134) t103) = 0 then (if x16_4 > 0 then (if 0 ≤ (wrap64 (x16_4 - 1)) then (if (wrap64 (x16_4 - 1)) < (t128.length : Int) then (if (rd t128 x16_4) ≤ (rd t128 (wrap64 (x16_4 - 1))) then (none) else (if 0 < (t128.length : Int) then (if (Go.bits .xor .u16 (rd t128 x16_4) (rd t128 0)) = t102 then (laws_FnEquations.l0 k4 l1 t102 t103 t128 (wrap64 (x16_4 + 1))) else (none)) else (none))) else (none)) else (none)) else (laws_FnEquations.l0 k4 l1 t102 t103 t128 (wrap64 (x16_4 + 1)))) else (none)) = some r := H
                                have A67 := Aside0.mk A670
                                clear A670
                                by_cases c68 : (Go.bits .xor .u16 (Go.bits .xor .u16 t133 t134) t103) = 0
                                · rw [if_pos c68] at H
                                  have c68b0 : ((Go.bits .xor .u16 (Go.bits .xor .u16 t133 t134) t103) == 0) = true := beq_iff_eq.mpr c68
                                  have c68b1 : ((Go.bits .xor .u16 (Go.bits .xor .u16 t133 t134) t103) != 0) = false := bne_eq_false_iff_eq.mpr c68
                                  clear c68
                                  by_cases c69 : x16_4 > 0
                                  · rw [if_pos c69] at H
                                    have c69b0 : decide (0 < x16_4) = true := decide_eq_true c69
                                    clear c69
                                    obtain ⟨ji70, hji70⟩ : ∃ j_ : Int, (wrap64 (x16_4 - 1)) = j_ := ⟨_, rfl⟩
                                    replace H : (if 0 ≤ (ji70) then (if (ji70) < (t128.length : Int) then (if (rd t128 x16_4) ≤ (rd t128 (ji70)) then (none) else (if 0 < (t128.length : Int) then (if (Go.bits .xor .u16 (rd t128 x16_4) (rd t128 0)) = t102 then (laws_FnEquations.l0 k4 l1 t102 t103 t128 (wrap64 (x16_4 + 1))) else (none)) else (none))) else (none)) else (none)) = some r := by first | (rw [hji70] at H; exact H) | (simp only [hji70] at H ⊢; exact H)
                                    (try rw [hji70] at A66)
                                    (try rw [hji70] at A67)
                                    have hji70w : (IntKind.i64.wrap (x16_4 - 1)) = ji70 := (i64_w _).trans hji70
                                    by_cases c71 : 0 ≤ (ji70)
                                    · rw [if_pos c71] at H
                                      have c71b0 : decide (0 ≤ (ji70)) = true := decide_eq_true c71
                                      clear c71
                                      by_cases c72 : (ji70) < (t128.length : Int)
                                      · rw [if_pos c72] at H
                                        have c72b0 : decide ((ji70) < (t128.length : Int)) = true := decide_eq_true c72
                                        clear c72
                                        by_cases c73 : (rd t128 x16_4) ≤ (rd t128 (ji70))
                                        · rw [if_pos c73] at H
                                          exact absurd H (by simp)
                                        · rw [if_neg c73] at H
                                          have c73b0 : decide ((rd t128 x16_4) ≤ (rd t128 (ji70))) = false := decide_eq_false c73
                                          clear c73
                                          by_cases c74 : 0 < (t128.length : Int)
                                          · rw [if_pos c74] at H
                                            have c74b0 : decide (0 < (t128.length : Int)) = true := decide_eq_true c74
                                            have c74b1 : decide (0 < t128.length) = true := decide_eq_true (by omega)
                                            clear c74
                                            by_cases c75 : (Go.bits .xor .u16 (rd t128 x16_4) (rd t128 0)) = t102
                                            · rw [if_pos c75] at H
                                              have c75b0 : ((Go.bits .xor .u16 (rd t128 x16_4) (rd t128 0)) == t102) = true := beq_iff_eq.mpr c75
                                              have c75b1 : ((Go.bits .xor .u16 (rd t128 x16_4) (rd t128 0)) != t102) = false := bne_eq_false_iff_eq.mpr c75
                                              clear c75
                                              as_aux_lemma =>
                                                have H' := Aside0.mk H
                                                clear H
                                                have p132 : 0 ≤ (x16_4 : Int) := of_decide_eq_true (by first | (with_reducible assumption) | assumption)
                                                have q132 : x16_4 < (t128.length : Int) := of_decide_eq_true (by first | (with_reducible assumption) | assumption)
                                                obtain ⟨ad132, e132, hx132_0⟩ := Kd.at_int (Kd.R_reads' HO_15.out).2.2 x16_4 p132 q132
                                                cases e132
                                                replace p132 := eq_true p132
                                                replace q132 := eq_true q132
                                                go_wp2_with (first | ((with_reducible refine gate_callee (f := 76) rfl ?_); refine goesL_ (some 158) rfl rfl Try.func76 (by kernel_rfl) rfl #[.int .u16 (rd t128 x16_4)] rfl (by (try simp only [List.map_toArray, List.map_cons, List.map_nil]); first | done | rfl | (simp only [List.length_drop, List.length_take]; rfl)) ?_; (with_reducible refine (spec_SquareOf.calls (rd t128 x16_4) t133 _ A66.out).mono ?_); rintro e w' ⟨rfl, ⟨nd, rfl⟩⟩; refine ⟨_, rfl, ?_⟩) | ((with_reducible refine gate_callee (f := 59) rfl ?_); refine goesL_ (some 161) rfl rfl Try.func59 (by kernel_rfl) rfl #[.int .u16 t102, .int .u16 (rd t128 x16_4)] rfl (by (try simp only [List.map_toArray, List.map_cons, List.map_nil]); first | done | rfl | (simp only [List.length_drop, List.length_take]; rfl)) ?_; (with_reducible refine (spec_TimesNim.calls t102 (rd t128 x16_4) t134 _ A67.out).mono ?_); rintro e w' ⟨rfl, ⟨nd, rfl⟩⟩; refine ⟨_, rfl, ?_⟩; have p135 : 0 ≤ ((ji70) : Int) := of_decide_eq_true (by first | (with_reducible assumption) | assumption); have q135 : (ji70) < (t128.length : Int) := of_decide_eq_true (by first | (with_reducible assumption) | assumption); obtain ⟨ad135, e135, hx135_0⟩ := Kd.at_int (Kd.R_reads' HO_15.out).2.2 (ji70) p135 q135; obtain rfl : ad132 = ad135 := (by injection e135); replace p135 := eq_true p135; replace q135 := eq_true q135; have p136 : 0 ≤ (0 : Int) := (by omega); have q136 : 0 < (t128.length : Int) := of_decide_eq_true (by first | (with_reducible assumption) | assumption); obtain ⟨ad136, e136, hx136_0⟩ := Kd.at_int (Kd.R_reads' HO_15.out).2.2 0 p136 q136; obtain rfl : ad132 = ad136 := (by injection e136); have qi136 : (0 < t128.length) = True := eq_true (by omega); (try rw [show ((0 : Int)).toNat = 0 from rfl] at hx136_0); (try rw [Addr.add_zero'] at hx136_0); replace p136 := eq_true p136; replace q136 := eq_true q136))
                                                go_roundg k4
                                                case measure => have := HJ7.out; have := HJ21.out; have := HJ45.out; have := HK4.out; omega
                                                case rel => exact ⟨(wrap64 (x16_4 + 1)), (by first | rfl | (simp; done) | (simp [*]; done)), H', ⟨by have := HJ7.out; have := HJ21.out; have := HJ45.out; have := HK4.out; omega⟩, ⟨by (with_reducible repeat (first | apply Kd.R_alloc | apply Kd.R_drewN | apply Kd.R_drew)); exact HO_15.out⟩, ⟨by repeat (first | (with_reducible first | exact HB.out | apply below_alloc | apply pw_below_drewN | apply below_drew1) | exact HB.out)⟩⟩
                                            · rw [if_neg c75] at H
                                              exact absurd H (by simp)
                                          · rw [if_neg c74] at H
                                            exact absurd H (by simp)
                                      · rw [if_neg c72] at H
                                        exact absurd H (by simp)
                                    · rw [if_neg c71] at H
                                      exact absurd H (by simp)
                                  · rw [if_neg c69] at H
                                    have c69b0 : decide (0 < x16_4) = false := decide_eq_false c69
                                    clear c69
                                    as_aux_lemma =>
                                      have H' := Aside0.mk H
                                      clear H
                                      have p132 : 0 ≤ (x16_4 : Int) := of_decide_eq_true (by first | (with_reducible assumption) | assumption)
                                      have q132 : x16_4 < (t128.length : Int) := of_decide_eq_true (by first | (with_reducible assumption) | assumption)
                                      obtain ⟨ad132, e132, hx132_0⟩ := Kd.at_int (Kd.R_reads' HO_15.out).2.2 x16_4 p132 q132
                                      cases e132
                                      replace p132 := eq_true p132
                                      replace q132 := eq_true q132
                                      go_wp2_with (first | ((with_reducible refine gate_callee (f := 76) rfl ?_); refine goesL_ (some 158) rfl rfl Try.func76 (by kernel_rfl) rfl #[.int .u16 (rd t128 x16_4)] rfl (by (try simp only [List.map_toArray, List.map_cons, List.map_nil]); first | done | rfl | (simp only [List.length_drop, List.length_take]; rfl)) ?_; (with_reducible refine (spec_SquareOf.calls (rd t128 x16_4) t133 _ A66.out).mono ?_); rintro e w' ⟨rfl, ⟨nd, rfl⟩⟩; refine ⟨_, rfl, ?_⟩) | ((with_reducible refine gate_callee (f := 59) rfl ?_); refine goesL_ (some 161) rfl rfl Try.func59 (by kernel_rfl) rfl #[.int .u16 t102, .int .u16 (rd t128 x16_4)] rfl (by (try simp only [List.map_toArray, List.map_cons, List.map_nil]); first | done | rfl | (simp only [List.length_drop, List.length_take]; rfl)) ?_; (with_reducible refine (spec_TimesNim.calls t102 (rd t128 x16_4) t134 _ A67.out).mono ?_); rintro e w' ⟨rfl, ⟨nd, rfl⟩⟩; refine ⟨_, rfl, ?_⟩))
                                      go_roundg k4
                                      case measure => have := HJ7.out; have := HJ21.out; have := HJ45.out; have := HK4.out; omega
                                      case rel => exact ⟨(wrap64 (x16_4 + 1)), (by first | rfl | (simp; done) | (simp [*]; done)), H', ⟨by have := HJ7.out; have := HJ21.out; have := HJ45.out; have := HK4.out; omega⟩, ⟨by (with_reducible repeat (first | apply Kd.R_alloc | apply Kd.R_drewN | apply Kd.R_drew)); exact HO_15.out⟩, ⟨by repeat (first | (with_reducible first | exact HB.out | apply below_alloc | apply pw_below_drewN | apply below_drew1) | exact HB.out)⟩⟩
                                · rw [if_neg c68] at H
                                  exact absurd H (by simp)
                              · rw [if_neg c65] at H
                                exact absurd H (by simp)
                            · rw [if_neg c64] at H
                              have c64b0 : decide (x16_4 < (t128.length : Int)) = false := decide_eq_false c64
                              clear c64
                              replace H := Option.bind_eq_some_iff.mp H
                              obtain ⟨t137, A760, H⟩ := H
                              replace H : ((impl_QuadraticRoots.f k4 (Go.bits .xor .u16 t102 t103) t137).bind fun t138 => (if t102 = t103 then (if (t138.length : Int) = 1 then (if 0 < (t138.length : Int) then (if (rd t138 0) = t102 then (if t102 = 0 then (some ((t128.length : Int) == 1)) else (some true)) else (none)) else (none)) else (none)) else ((laws_a2At.f l1 0 4).bind fun t142 => ((impl_LeastGenerator.f k4 (wrap64 (1 + t142))).bind fun bt143 => ((spec_LeastGenerator.f k4 (wrap64 (1 + t142))).bind fun bt145 => (laws_FnEquations.l1 k4 t102 t103 t138 (wrap64 (1 + t142)) bt143.1 bt143.2 bt145.1 bt145.2 2 0)))))) = some r := H
                              have A76 := Aside0.mk A760
                              clear A760
                              replace H := Option.bind_eq_some_iff.mp H
                              obtain ⟨t138, A770, H⟩ := H
                              replace H : (if t102 = t103 then (if (t138.length : Int) = 1 then (if 0 < (t138.length : Int) then (if (rd t138 0) = t102 then (if t102 = 0 then (some ((t128.length : Int) == 1)) else (some true)) else (none)) else (none)) else (none)) else ((laws_a2At.f l1 0 4).bind fun t142 => ((impl_LeastGenerator.f k4 (wrap64 (1 + t142))).bind fun bt143 => ((spec_LeastGenerator.f k4 (wrap64 (1 + t142))).bind fun bt145 => (laws_FnEquations.l1 k4 t102 t103 t138 (wrap64 (1 + t142)) bt143.1 bt143.2 bt145.1 bt145.2 2 0))))) = some r := H
                              have A77 := Aside0.mk A770
                              clear A770
                              by_cases c78 : t102 = t103
                              · rw [if_pos c78] at H
                                have c78b0 : (t102 == t103) = true := beq_iff_eq.mpr c78
                                have c78b1 : (t102 != t103) = false := bne_eq_false_iff_eq.mpr c78
                                clear c78
                                by_cases c79 : (t138.length : Int) = 1
                                · rw [if_pos c79] at H
                                  have c79b0 : ((t138.length : Int) == 1) = true := beq_iff_eq.mpr c79
                                  have c79b1 : ((t138.length : Int) != 1) = false := bne_eq_false_iff_eq.mpr c79
                                  clear c79
                                  by_cases c80 : 0 < (t138.length : Int)
                                  · rw [if_pos c80] at H
                                    have c80b0 : decide (0 < (t138.length : Int)) = true := decide_eq_true c80
                                    have c80b1 : decide (0 < t138.length) = true := decide_eq_true (by omega)
                                    clear c80
                                    by_cases c81 : (rd t138 0) = t102
                                    · rw [if_pos c81] at H
                                      have c81b0 : ((rd t138 0) == t102) = true := beq_iff_eq.mpr c81
                                      have c81b1 : ((rd t138 0) != t102) = false := bne_eq_false_iff_eq.mpr c81
                                      clear c81
                                      by_cases c82 : t102 = 0
                                      · rw [if_pos c82] at H
                                        have c82b0 : (t102 == 0) = true := beq_iff_eq.mpr c82
                                        have c82b1 : (t102 != 0) = false := bne_eq_false_iff_eq.mpr c82
                                        clear c82
                                        as_aux_lemma =>
                                          obtain rfl := Option.some.inj H
                                          go_wp2_with (first | ((with_reducible refine gate_callee (f := 59) rfl ?_); refine goesL_ (some 193) rfl rfl Try.func59 (by kernel_rfl) rfl #[.int .u16 t102, .int .u16 t103] rfl (by (try simp only [List.map_toArray, List.map_cons, List.map_nil]); first | done | rfl | (simp only [List.length_drop, List.length_take]; rfl)) ?_; (with_reducible refine (spec_TimesNim.calls t102 t103 t137 _ A76.out).mono ?_); rintro e w' ⟨rfl, ⟨nd, rfl⟩⟩; refine ⟨_, rfl, ?_⟩) | ((with_reducible refine gate_callee (f := 70) rfl ?_); refine goesL_ (some 194) rfl rfl Try.func70 (by kernel_rfl) rfl #[.int .u16 (Go.bits .xor .u16 t102 t103), .int .u16 t137] rfl (by (try simp only [List.map_toArray, List.map_cons, List.map_nil]); first | done | rfl | (simp only [List.length_drop, List.length_take]; rfl)) ?_; (with_reducible refine (impl_QuadraticRoots.calls k4 (Go.bits .xor .u16 t102 t103) t137 t138 _ A77.out).mono ?_); rintro e w83 ⟨v139, rfl, ho0, hb⟩; refine ⟨_, rfl, ?_⟩; have n0_ := Aside0.mk (Kd.R_elder' (by (with_reducible repeat (first | apply Kd.R_alloc | apply Kd.R_drewN | apply Kd.R_drew)); exact HO_15.out) (Kd.R_base ho0) hb); have n1_ := Aside0.mk (Kd.R_lower (Kd.R_new' ho0 (Kd.R_lt (by (with_reducible repeat (first | apply Kd.R_alloc | apply Kd.R_drewN | apply Kd.R_drew)); exact HO_15.out))) (below_size (by repeat (first | (with_reducible first | exact HB.out | apply below_alloc | apply pw_below_drewN | apply below_drew1) | exact HB.out)))); have n2_ := Aside0.mk (below_step (by repeat (first | (with_reducible first | exact HB.out | apply below_alloc | apply pw_below_drewN | apply below_drew1) | exact HB.out)) hb); clear HO_15; clear HB; have HO_15 := n0_; have HO140 := n1_; have HB := n2_; clear n0_ n1_ n2_; (try clear hb); (try clear hb2); (try clear hk); (try clear hi); (try clear ho0); obtain ⟨Ao84, co84, eo84⟩ := Kd.R_slice HO140.out; subst eo84; have p141 : 0 ≤ (0 : Int) := (by omega); have q141 : 0 < (t138.length : Int) := of_decide_eq_true (by first | (with_reducible assumption) | assumption); obtain ⟨ad141, e141, hx141_0⟩ := Kd.at_int (Kd.R_reads' HO140.out).2.2 0 p141 q141; cases e141; have qi141 : (0 < t138.length) = True := eq_true (by omega); (try rw [show ((0 : Int)).toNat = 0 from rfl] at hx141_0); (try rw [Addr.add_zero'] at hx141_0); replace p141 := eq_true p141; replace q141 := eq_true q141))
                                          go_ret
                                          exact ⟨by first | rfl | (simp [errW_none, errW_some] <;> rfl) | (simp [*, errW_none, errW_some] <;> rfl), by repeat (first | (with_reducible first | exact HB.out | apply below_alloc | apply pw_below_drewN | apply below_drew1) | exact HB.out)⟩
                                      · rw [if_neg c82] at H
                                        have c82b0 : (t102 == 0) = false := beq_eq_false_iff_ne.mpr c82
                                        have c82b1 : (t102 != 0) = true := bne_iff_ne.mpr c82
                                        as_aux_lemma =>
                                          obtain rfl := Option.some.inj H
                                          go_wp2_with (first | ((with_reducible refine gate_callee (f := 59) rfl ?_); refine goesL_ (some 193) rfl rfl Try.func59 (by kernel_rfl) rfl #[.int .u16 t102, .int .u16 t103] rfl (by (try simp only [List.map_toArray, List.map_cons, List.map_nil]); first | done | rfl | (simp only [List.length_drop, List.length_take]; rfl)) ?_; (with_reducible refine (spec_TimesNim.calls t102 t103 t137 _ A76.out).mono ?_); rintro e w' ⟨rfl, ⟨nd, rfl⟩⟩; refine ⟨_, rfl, ?_⟩) | ((with_reducible refine gate_callee (f := 70) rfl ?_); refine goesL_ (some 194) rfl rfl Try.func70 (by kernel_rfl) rfl #[.int .u16 (Go.bits .xor .u16 t102 t103), .int .u16 t137] rfl (by (try simp only [List.map_toArray, List.map_cons, List.map_nil]); first | done | rfl | (simp only [List.length_drop, List.length_take]; rfl)) ?_; (with_reducible refine (impl_QuadraticRoots.calls k4 (Go.bits .xor .u16 t102 t103) t137 t138 _ A77.out).mono ?_); rintro e w85 ⟨v139, rfl, ho0, hb⟩; refine ⟨_, rfl, ?_⟩; have n0_ := Aside0.mk (Kd.R_elder' (by (with_reducible repeat (first | apply Kd.R_alloc | apply Kd.R_drewN | apply Kd.R_drew)); exact HO_15.out) (Kd.R_base ho0) hb); have n1_ := Aside0.mk (Kd.R_lower (Kd.R_new' ho0 (Kd.R_lt (by (with_reducible repeat (first | apply Kd.R_alloc | apply Kd.R_drewN | apply Kd.R_drew)); exact HO_15.out))) (below_size (by repeat (first | (with_reducible first | exact HB.out | apply below_alloc | apply pw_below_drewN | apply below_drew1) | exact HB.out)))); have n2_ := Aside0.mk (below_step (by repeat (first | (with_reducible first | exact HB.out | apply below_alloc | apply pw_below_drewN | apply below_drew1) | exact HB.out)) hb); clear HO_15; clear HB; have HO_15 := n0_; have HO140 := n1_; have HB := n2_; clear n0_ n1_ n2_; (try clear hb); (try clear hb2); (try clear hk); (try clear hi); (try clear ho0); obtain ⟨Ao86, co86, eo86⟩ := Kd.R_slice HO140.out; subst eo86; have p141 : 0 ≤ (0 : Int) := (by omega); have q141 : 0 < (t138.length : Int) := of_decide_eq_true (by first | (with_reducible assumption) | assumption); obtain ⟨ad141, e141, hx141_0⟩ := Kd.at_int (Kd.R_reads' HO140.out).2.2 0 p141 q141; cases e141; have qi141 : (0 < t138.length) = True := eq_true (by omega); (try rw [show ((0 : Int)).toNat = 0 from rfl] at hx141_0); (try rw [Addr.add_zero'] at hx141_0); replace p141 := eq_true p141; replace q141 := eq_true q141))
                                          go_ret
                                          exact ⟨by first | rfl | (simp [errW_none, errW_some] <;> rfl) | (simp [*, errW_none, errW_some] <;> rfl), by repeat (first | (with_reducible first | exact HB.out | apply below_alloc | apply pw_below_drewN | apply below_drew1) | exact HB.out)⟩
                                    · rw [if_neg c81] at H
                                      exact absurd H (by simp)
                                  · rw [if_neg c80] at H
                                    exact absurd H (by simp)
                                · rw [if_neg c79] at H
                                  exact absurd H (by simp)
                              · rw [if_neg c78] at H
                                have c78b0 : (t102 == t103) = false := beq_eq_false_iff_ne.mpr c78
                                have c78b1 : (t102 != t103) = true := bne_iff_ne.mpr c78
                                replace H := Option.bind_eq_some_iff.mp H
                                obtain ⟨t142, A870, H⟩ := H
                                replace H : ((impl_LeastGenerator.f k4 (wrap64 (1 + t142))).bind fun bt143 => ((spec_LeastGenerator.f k4 (wrap64 (1 + t142))).bind fun bt145 => (laws_FnEquations.l1 k4 t102 t103 t138 (wrap64 (1 + t142)) bt143.1 bt143.2 bt145.1 bt145.2 2 0))) = some r := H
                                have A87 := Aside0.mk A870
                                clear A870
                                replace H := Option.bind_eq_some_iff.mp H
                                obtain ⟨⟨t143, t144⟩, A880, H⟩ := H
                                replace H : ((spec_LeastGenerator.f k4 (wrap64 (1 + t142))).bind fun bt145 => (laws_FnEquations.l1 k4 t102 t103 t138 (wrap64 (1 + t142)) t143 t144 bt145.1 bt145.2 2 0)) = some r := H
                                have A88 := Aside0.mk A880
                                clear A880
                                replace H := Option.bind_eq_some_iff.mp H
                                obtain ⟨⟨t145, t146⟩, A890, H⟩ := H
                                replace H : (laws_FnEquations.l1 k4 t102 t103 t138 (wrap64 (1 + t142)) t143 t144 t145 t146 2 0) = some r := H
                                have A89 := Aside0.mk A890
                                clear A890
                                have H' := Aside0.mk H
                                clear H
                                go_wp2_with (first | ((with_reducible refine gate_callee (f := 59) rfl ?_); refine goesL_ (some 193) rfl rfl Try.func59 (by kernel_rfl) rfl #[.int .u16 t102, .int .u16 t103] rfl (by (try simp only [List.map_toArray, List.map_cons, List.map_nil]); first | done | rfl | (simp only [List.length_drop, List.length_take]; rfl)) ?_; (with_reducible refine (spec_TimesNim.calls t102 t103 t137 _ A76.out).mono ?_); rintro e w' ⟨rfl, ⟨nd, rfl⟩⟩; refine ⟨_, rfl, ?_⟩) | ((with_reducible refine gate_callee (f := 70) rfl ?_); refine goesL_ (some 194) rfl rfl Try.func70 (by kernel_rfl) rfl #[.int .u16 (Go.bits .xor .u16 t102 t103), .int .u16 t137] rfl (by (try simp only [List.map_toArray, List.map_cons, List.map_nil]); first | done | rfl | (simp only [List.length_drop, List.length_take]; rfl)) ?_; (with_reducible refine (impl_QuadraticRoots.calls k4 (Go.bits .xor .u16 t102 t103) t137 t138 _ A77.out).mono ?_); rintro e w90 ⟨v139, rfl, ho0, hb⟩; refine ⟨_, rfl, ?_⟩; have n0_ := Aside0.mk (Kd.R_elder' (by (with_reducible repeat (first | apply Kd.R_alloc | apply Kd.R_drewN | apply Kd.R_drew)); exact HO_15.out) (Kd.R_base ho0) hb); have n1_ := Aside0.mk (Kd.R_lower (Kd.R_new' ho0 (Kd.R_lt (by (with_reducible repeat (first | apply Kd.R_alloc | apply Kd.R_drewN | apply Kd.R_drew)); exact HO_15.out))) (below_size (by repeat (first | (with_reducible first | exact HB.out | apply below_alloc | apply pw_below_drewN | apply below_drew1) | exact HB.out)))); have n2_ := Aside0.mk (below_step (by repeat (first | (with_reducible first | exact HB.out | apply below_alloc | apply pw_below_drewN | apply below_drew1) | exact HB.out)) hb); clear HO_15; clear HB; have HO_15 := n0_; have HO140 := n1_; have HB := n2_; clear n0_ n1_ n2_; (try clear hb); (try clear hb2); (try clear hk); (try clear hi); (try clear ho0)) | ((with_reducible refine gate_callee (f := 58) rfl ?_); refine goesL_ (some 218) rfl rfl Try.func58 (by kernel_rfl) rfl #[.slice A1 l1.length c1, .int .i64 0, .int .i64 4] rfl (by (try simp only [List.map_toArray, List.map_cons, List.map_nil]); first | done | rfl | (simp only [List.length_drop, List.length_take]; rfl)) ?_; (with_reducible refine (laws_a2At.calls _ _ l1 0 4 t142 _ ?side1 ?side2 A87.out).mono ?_); (case side1 => repeat (first | exact (Kd.C_below HR1.out HB.out) | (with_reducible refine Kd.C_alloc ?_ _) | (with_reducible refine Kd.C_drewN ?_ _) | (with_reducible refine Kd.C_drew ?_))); (case side2 => exact HC1.out); rintro e w' ⟨rfl, ⟨nd, rfl⟩⟩; refine ⟨_, rfl, ?_⟩) | ((with_reducible refine gate_callee (f := 79) rfl ?_); refine goesL_ (some 222) rfl rfl Try.func79 (by kernel_rfl) rfl #[.int .i64 (wrap64 (1 + t142))] rfl (by (try simp only [List.map_toArray, List.map_cons, List.map_nil]); first | done | rfl | (simp only [List.length_drop, List.length_take]; rfl)) ?_; (with_reducible refine (impl_LeastGenerator.calls k4 (wrap64 (1 + t142)) t143 t144 _ A88.out).mono ?_); rintro e w91 ⟨rfl, hb⟩; refine ⟨_, rfl, ?_⟩; have n0_ := Aside0.mk (Kd.R_below (by (with_reducible repeat (first | apply Kd.R_alloc | apply Kd.R_drewN | apply Kd.R_drew)); exact HO_15.out) hb); have n1_ := Aside0.mk (Kd.R_below (by (with_reducible repeat (first | apply Kd.R_alloc | apply Kd.R_drewN | apply Kd.R_drew)); exact HO140.out) hb); have n2_ := Aside0.mk (below_step (by repeat (first | (with_reducible first | exact HB.out | apply below_alloc | apply pw_below_drewN | apply below_drew1) | exact HB.out)) hb); clear HO_15; clear HO140; clear HB; have HO_15 := n0_; have HO140 := n1_; have HB := n2_; clear n0_ n1_ n2_; (try clear hb); (try clear hb2); (try clear hk); (try clear hi)) | ((with_reducible refine gate_callee (f := 80) rfl ?_); refine goesL_ (some 227) rfl rfl Try.func80 (by kernel_rfl) rfl #[.int .i64 (wrap64 (1 + t142))] rfl (by (try simp only [List.map_toArray, List.map_cons, List.map_nil]); first | done | rfl | (simp only [List.length_drop, List.length_take]; rfl)) ?_; (with_reducible refine (spec_LeastGenerator.calls k4 (wrap64 (1 + t142)) t145 t146 _ A89.out).mono ?_); rintro e w92 ⟨rfl, hb⟩; refine ⟨_, rfl, ?_⟩; have n0_ := Aside0.mk (Kd.R_below (by (with_reducible repeat (first | apply Kd.R_alloc | apply Kd.R_drewN | apply Kd.R_drew)); exact HO_15.out) hb); have n1_ := Aside0.mk (Kd.R_below (by (with_reducible repeat (first | apply Kd.R_alloc | apply Kd.R_drewN | apply Kd.R_drew)); exact HO140.out) hb); have n2_ := Aside0.mk (below_step (by repeat (first | (with_reducible first | exact HB.out | apply below_alloc | apply pw_below_drewN | apply below_drew1) | exact HB.out)) hb); clear HO_15; clear HO140; clear HB; have HO_15 := n0_; have HO140 := n1_; have HB := n2_; clear n0_ n1_ n2_; (try clear hb); (try clear hb2); (try clear hk); (try clear hi)))
                                go_loopg [24, 25] k4 (fun kq v24 v25 w' => ∃ (x24_5 : Int) (x25_5 : Int), v24 = .int .i64 x24_5 ∧ v25 = .int .i64 x25_5 ∧ Aside0 (laws_FnEquations.l1 kq t102 t103 t138 (wrap64 (1 + t142)) t143 t144 t145 t146 x24_5 x25_5 = some r) ∧ Aside0 (kq ≤ k4) ∧ Aside0 (Kd.R (Kd.int .u16) 36 w' w.heap.size (fun _ => True) v139 t138) ∧ Aside0 (Below w.heap.size w w'))
                                case atStart => exact ⟨(2), (0), (by first | rfl | (simp; done) | (simp [*]; done)), (by first | rfl | (simp; done) | (simp [*]; done)), H', ⟨Nat.le_refl _⟩, ⟨by (with_reducible repeat (first | apply Kd.R_alloc | apply Kd.R_drewN | apply Kd.R_drew)); exact Kd.R_mono HO140.out (fun _ hk => trivial)⟩, ⟨by repeat (first | (with_reducible first | exact HB.out | apply below_alloc | apply pw_below_drewN | apply below_drew1) | exact HB.out)⟩⟩
                                case round =>
                                  clear H'
                                  try clear c1
                                  try clear p1
                                  try clear q1
                                  try clear hx1
                                  try clear qi1
                                  try clear c2
                                  try clear p2
                                  try clear c3
                                  try clear c4
                                  try clear c5
                                  try clear c6
                                  try clear p6
                                  try clear c7
                                  try clear c8
                                  try clear c9
                                  try clear p11
                                  try clear q11
                                  try clear hx11
                                  try clear qi11
                                  try clear c12
                                  try clear c12b0
                                  try clear c12b1
                                  try clear c13
                                  try clear c13b0
                                  try clear p13
                                  try clear q13
                                  try clear hx13
                                  try clear qi13
                                  try clear p14
                                  try clear q14
                                  try clear hx14
                                  try clear qi14
                                  try clear c16
                                  try clear c16b0
                                  try clear c16b1
                                  try clear c19
                                  try clear c20
                                  try clear c21
                                  try clear c26
                                  try clear c27
                                  try clear c27b0
                                  try clear c27b1
                                  try clear c27b2
                                  try clear c28
                                  try clear c28b0
                                  try clear c28b1
                                  try clear c29
                                  try clear c29b0
                                  try clear c29b1
                                  try clear c30
                                  try clear c30b0
                                  try clear c30b1
                                  try clear c32
                                  try clear c32b0
                                  try clear c33
                                  try clear c33b0
                                  try clear c43
                                  try clear c47
                                  try clear c49
                                  try clear c49b0
                                  try clear c49b1
                                  try clear c50
                                  try clear c50b0
                                  try clear c50b1
                                  try clear c51
                                  try clear c51b0
                                  try clear c51b1
                                  try clear c51b2
                                  try clear c52
                                  try clear c52b0
                                  try clear c52b1
                                  try clear c54
                                  try clear c54b0
                                  try clear c54b1
                                  try clear c55
                                  try clear c58
                                  try clear c59
                                  try clear c64
                                  try clear c64b0
                                  try clear p64
                                  try clear c65
                                  try clear c65b0
                                  try clear c68
                                  try clear c68b0
                                  try clear c68b1
                                  try clear c69
                                  try clear c69b0
                                  try clear c70
                                  try clear c71
                                  try clear c71b0
                                  try clear c72
                                  try clear c72b0
                                  try clear c73
                                  try clear c73b0
                                  try clear c74
                                  try clear c74b0
                                  try clear c74b1
                                  try clear c75
                                  try clear c75b0
                                  try clear c75b1
                                  try clear c76
                                  try clear c78
                                  try clear c78b0
                                  try clear c78b1
                                  try clear c79
                                  try clear c79b0
                                  try clear c79b1
                                  try clear c80
                                  try clear c80b0
                                  try clear c80b1
                                  try clear c81
                                  try clear c81b0
                                  try clear c81b1
                                  try clear c82
                                  try clear c82b0
                                  try clear c82b1
                                  try clear hx117_0
                                  try clear hx118_0
                                  try clear hx132_0
                                  try clear hx135_0
                                  try clear hx136_0
                                  try clear hx141_0
                                  try clear p1
                                  try clear p11
                                  try clear p117
                                  try clear p118
                                  try clear p132
                                  try clear p135
                                  try clear p136
                                  try clear p141
                                  try clear p2
                                  try clear p6
                                  try clear q1
                                  try clear q11
                                  try clear q117
                                  try clear q118
                                  try clear q132
                                  try clear q135
                                  try clear q136
                                  try clear q141
                                  obtain ⟨x24_5, x25_5, rfl, rfl, HA, HK5, HO_18, HB⟩ := hrel
                                  cases gk with
                                  | zero => exact absurd HA.out (by simp [laws_FnEquations.l1])
                                  | succ k5 =>
                                    have H := HA.out
                                    clear HA
                                    simp only [laws_FnEquations.l1] at H
                                    by_cases c93 : x25_5 < (wrap64 (1 + t142))
                                    · rw [if_pos c93] at H
                                      have c93b0 : decide (x25_5 < (wrap64 (1 + t142))) = true := decide_eq_true c93
                                      clear c93
                                      as_aux_lemma =>
                                        have H' := Aside0.mk H
                                        clear H
                                        go_wp2
                                        go_roundg k5
                                        case measure => have := HJ7.out; have := HJ21.out; have := HJ45.out; have := HK4.out; have := HK5.out; omega
                                        case rel => exact ⟨(wrap64 (x24_5 * x24_5)), (wrap64 (x25_5 + 1)), (by first | rfl | (simp; done) | (simp [*]; done)), (by first | rfl | (simp; done) | (simp [*]; done)), H', ⟨by have := HJ7.out; have := HJ21.out; have := HJ45.out; have := HK4.out; have := HK5.out; omega⟩, ⟨by (with_reducible repeat (first | apply Kd.R_alloc | apply Kd.R_drewN | apply Kd.R_drew)); exact HO_18.out⟩, ⟨by repeat (first | (with_reducible first | exact HB.out | apply below_alloc | apply pw_below_drewN | apply below_drew1) | exact HB.out)⟩⟩
                                    · rw [if_neg c93] at H
                                      have c93b0 : decide (x25_5 < (wrap64 (1 + t142))) = false := decide_eq_false c93
                                      clear c93
                                      replace H := Option.bind_eq_some_iff.mp H
                                      obtain ⟨⟨t147, t148⟩, A940, H⟩ := H
                                      replace H : (if (t138.length : Int) = 2 then (if 0 < (t138.length : Int) then (if (rd t138 0) = (mn t102 t103) then (if 1 < (t138.length : Int) then (if (rd t138 1) = (mx t102 t103) then (if t144 = t146 then (if t144 = 0 then (if t143 = t145 then (if t148 = 0 then (some (t147 == (wrap64 (x24_5 - 1)))) else (none)) else (none)) else (none)) else (none)) else (none)) else (none)) else (none)) else (none)) else (none)) = some r := H
                                      have A94 := Aside0.mk A940
                                      clear A940
                                      by_cases c95 : (t138.length : Int) = 2
                                      · rw [if_pos c95] at H
                                        have c95b0 : ((t138.length : Int) == 2) = true := beq_iff_eq.mpr c95
                                        have c95b1 : ((t138.length : Int) != 2) = false := bne_eq_false_iff_eq.mpr c95
                                        clear c95
                                        by_cases c96 : 0 < (t138.length : Int)
                                        · rw [if_pos c96] at H
                                          have c96b0 : decide (0 < (t138.length : Int)) = true := decide_eq_true c96
                                          have c96b1 : decide (0 < t138.length) = true := decide_eq_true (by omega)
                                          clear c96
                                          obtain ⟨ji97, hji97⟩ : ∃ j_ : Int, (mn t102 t103) = j_ := ⟨_, rfl⟩
                                          replace H : (if (rd t138 0) = (ji97) then (if 1 < (t138.length : Int) then (if (rd t138 1) = (mx t102 t103) then (if t144 = t146 then (if t144 = 0 then (if t143 = t145 then (if t148 = 0 then (some (t147 == (wrap64 (x24_5 - 1)))) else (none)) else (none)) else (none)) else (none)) else (none)) else (none)) else (none)) = some r := by first | (rw [hji97] at H; exact H) | (simp only [hji97] at H ⊢; exact H)
                                          (try rw [hji97] at A94)
                                          have hji97_ : (if t103 < t102 then t103 else t102) = ji97 := hji97
                                          by_cases c98 : (rd t138 0) = (ji97)
                                          · rw [if_pos c98] at H
                                            have c98b0 : ((rd t138 0) == (ji97)) = true := beq_iff_eq.mpr c98
                                            have c98b1 : ((rd t138 0) != (ji97)) = false := bne_eq_false_iff_eq.mpr c98
                                            clear c98
                                            by_cases c99 : 1 < (t138.length : Int)
                                            · rw [if_pos c99] at H
                                              have c99b0 : decide (1 < (t138.length : Int)) = true := decide_eq_true c99
                                              have c99b1 : decide (1 < t138.length) = true := decide_eq_true (by omega)
                                              clear c99
                                              obtain ⟨ji100, hji100⟩ : ∃ j_ : Int, (mx t102 t103) = j_ := ⟨_, rfl⟩
                                              replace H : (if (rd t138 1) = (ji100) then (if t144 = t146 then (if t144 = 0 then (if t143 = t145 then (if t148 = 0 then (some (t147 == (wrap64 (x24_5 - 1)))) else (none)) else (none)) else (none)) else (none)) else (none)) = some r := by first | (rw [hji100] at H; exact H) | (simp only [hji100] at H ⊢; exact H)
                                              (try rw [hji100] at A94)
                                              have hji100_ : (if t102 < t103 then t103 else t102) = ji100 := hji100
                                              by_cases c101 : (rd t138 1) = (ji100)
                                              · rw [if_pos c101] at H
                                                have c101b0 : ((rd t138 1) == (ji100)) = true := beq_iff_eq.mpr c101
                                                have c101b1 : ((rd t138 1) != (ji100)) = false := bne_eq_false_iff_eq.mpr c101
                                                clear c101
                                                by_cases c102 : t144 = t146
                                                · rw [if_pos c102] at H
                                                  have c102b0 : (t144 == t146) = true := beq_iff_eq.mpr c102
                                                  have c102b1 : (t144 != t146) = false := bne_eq_false_iff_eq.mpr c102
                                                  clear c102
                                                  by_cases c103 : t144 = 0
                                                  · rw [if_pos c103] at H
                                                    have c103b0 : (t144 == 0) = true := beq_iff_eq.mpr c103
                                                    have c103b1 : (t144 != 0) = false := bne_eq_false_iff_eq.mpr c103
                                                    clear c103
                                                    by_cases c104 : t143 = t145
                                                    · rw [if_pos c104] at H
                                                      have c104b0 : (t143 == t145) = true := beq_iff_eq.mpr c104
                                                      have c104b1 : (t143 != t145) = false := bne_eq_false_iff_eq.mpr c104
                                                      clear c104
                                                      by_cases c105 : t148 = 0
                                                      · rw [if_pos c105] at H
                                                        have c105b0 : (t148 == 0) = true := beq_iff_eq.mpr c105
                                                        have c105b1 : (t148 != 0) = false := bne_eq_false_iff_eq.mpr c105
                                                        clear c105
                                                        as_aux_lemma =>
                                                          obtain rfl := Option.some.inj H
                                                          go_wp2_with (first | ((with_reducible refine gate_callee (f := 81) rfl ?_); refine goesL_ (some 240) rfl rfl Try.func81 (by kernel_rfl) rfl #[.int .u16 t145] rfl (by (try simp only [List.map_toArray, List.map_cons, List.map_nil]); first | done | rfl | (simp only [List.length_drop, List.length_take]; rfl)) ?_; (with_reducible refine (impl_OrderOf.calls k5 t145 t147 t148 _ A94.out).mono ?_); rintro e w106 ⟨rfl, hb⟩; refine ⟨_, rfl, ?_⟩; have n0_ := Aside0.mk (Kd.R_below (by (with_reducible repeat (first | apply Kd.R_alloc | apply Kd.R_drewN | apply Kd.R_drew)); exact HO_18.out) hb); have n1_ := Aside0.mk (below_step (by repeat (first | (with_reducible first | exact HB.out | apply below_alloc | apply pw_below_drewN | apply below_drew1) | exact HB.out)) hb); clear HO_18; clear HB; have HO_18 := n0_; have HB := n1_; clear n0_ n1_; (try clear hb); (try clear hb2); (try clear hk); (try clear hi); obtain ⟨Ao107, co107, eo107⟩ := Kd.R_slice HO_18.out; subst eo107; have p149 : 0 ≤ (0 : Int) := (by omega); have q149 : 0 < (t138.length : Int) := of_decide_eq_true (by first | (with_reducible assumption) | assumption); obtain ⟨ad149, e149, hx149_0⟩ := Kd.at_int (Kd.R_reads' HO_18.out).2.2 0 p149 q149; cases e149; have qi149 : (0 < t138.length) = True := eq_true (by omega); (try rw [show ((0 : Int)).toNat = 0 from rfl] at hx149_0); (try rw [Addr.add_zero'] at hx149_0); replace p149 := eq_true p149; replace q149 := eq_true q149; have p150 : 0 ≤ (1 : Int) := (by omega); have q150 : 1 < (t138.length : Int) := of_decide_eq_true (by first | (with_reducible assumption) | assumption); obtain ⟨ad150, e150, hx150_0⟩ := Kd.at_int (Kd.R_reads' HO_18.out).2.2 1 p150 q150; obtain rfl : ad149 = ad150 := (by injection e150); (try simp only [show (1 : Int).toNat = 1 from rfl, Nat.reduceMul, Nat.reduceEqDiff, Go.Addr.add, ↓reduceIte] at hx150_0); have qi150 : (1 < t138.length) = True := eq_true (by omega); (try rw [show ((1 : Int)).toNat = 1 from rfl] at hx150_0); replace p150 := eq_true p150; replace q150 := eq_true q150))
                                                          go_ret
                                                          exact ⟨by first | rfl | (simp [errW_none, errW_some] <;> rfl) | (simp only [← hji97, ← hji100]; first | rfl | (simp [errW_none, errW_some] <;> rfl)) | (simp [*, errW_none, errW_some] <;> rfl), by repeat (first | (with_reducible first | exact HB.out | apply below_alloc | apply pw_below_drewN | apply below_drew1) | exact HB.out)⟩
                                                      · rw [if_neg c105] at H
                                                        exact absurd H (by simp)
                                                    · rw [if_neg c104] at H
                                                      exact absurd H (by simp)
                                                  · rw [if_neg c103] at H
                                                    exact absurd H (by simp)
                                                · rw [if_neg c102] at H
                                                  exact absurd H (by simp)
                                              · rw [if_neg c101] at H
                                                exact absurd H (by simp)
                                            · rw [if_neg c99] at H
                                              exact absurd H (by simp)
                                          · rw [if_neg c98] at H
                                            exact absurd H (by simp)
                                        · rw [if_neg c96] at H
                                          exact absurd H (by simp)
                                      · rw [if_neg c95] at H
                                        exact absurd H (by simp)
                      · replace c59 := Bool.eq_false_iff.mpr c59
                        subst c59
                        have H1 : (none) = some r := by rw [if_neg (show ¬ (false = true) by decide)] at H; exact H
                        clear H
                        have H := H1
                        clear H1
                        exact absurd H (by simp)
def laws_FnEquations.Pure : Prop := ∀ (l0 : List Int) (l1 : List Int), l0.length ≤ maxLen → l0.length * 1 ≤ 140737488351232 → (∀ x ∈ l0, (Lit.int .u8 x).wf = true) → l1.length ≤ maxLen → l1.length * 1 ≤ 140737488351232 → (∀ x ∈ l1, (Lit.int .u8 x).wf = true) → ∃ k, laws_FnEquations.f k l0 l1 = some true
theorem laws_FnEquations.walk (P : laws_FnEquations.Pure) (a0 : Option Addr) (len0 cap0 : Nat) (z0 : List Int) (a1 : Option Addr) (len1 cap1 : Nat) (z1 : List Int) (w : World) (w0 : (a0 = none ∧ len0 = 0 ∧ cap0 = 0 ∧ z0 = []) ∨ ∃ x, a0 = some x ∧ len0 ≤ cap0 ∧ cap0 ≤ maxLen ∧ z0.length = cap0 ∧ (∀ i, i < z0.length → w.cell? (x.add i) = some (.int .u8 (z0.getD i 0))) ∧ ∀ n ∈ z0, (Lit.int .u8 n).wf = true) (y0 : len0 * 1 ≤ 140737488351232) (w1 : (a1 = none ∧ len1 = 0 ∧ cap1 = 0 ∧ z1 = []) ∨ ∃ x, a1 = some x ∧ len1 ≤ cap1 ∧ cap1 ≤ maxLen ∧ z1.length = cap1 ∧ (∀ i, i < z1.length → w.cell? (x.add i) = some (.int .u8 (z1.getD i 0))) ∧ ∀ n ∈ z1, (Lit.int .u8 n).wf = true) (y1 : len1 * 1 ≤ 140737488351232) :
    Calls Try.prog 9 #[.slice a0 len0 cap0, .slice a1 len1 cap1] w fun e w' => e = .returned (.bool true) ∧ Below w.heap.size w w' := by
  obtain ⟨l0, rfl, hr0, hm0, hw0, hc0⟩ := ReadsInt.ofRowC w0
  obtain ⟨l1, rfl, hr1, hm1, hw1, hc1⟩ := ReadsInt.ofRowC w1
  obtain ⟨k, h⟩ := P l0 l1 hm0 y0 hw0 hm1 y1 hw1
  refine (laws_FnEquations.calls k _ _ l0 _ _ l1 true w (Kd.C_of_reads (d := (0 : Int)) (h1 := fun _ => rfl) hr0) hc0 (Kd.C_of_reads (d := (0 : Int)) (h1 := fun _ => rfl) hr1) hc1 h).mono ?_
  rintro e w' ⟨rfl, hd⟩
  exact ⟨rfl, hd⟩
end Go.Proofs.Ytadfobooofkelaa.X

namespace Go.Proofs.Ytadfobooofkelaa.Nim
set_option linter.unusedVariables false
set_option linter.unusedSimpArgs false
inductive F : Nat → Type
  | bit : Bool → F 0
  | pair {k : Nat} : F k → F k → F (k + 1)
  deriving DecidableEq
def fadd : {k : Nat} → F k → F k → F k
  | _, .bit a, .bit b => .bit (xor a b)
  | _, .pair a1 a0, .pair b1 b0 => .pair (fadd a1 b1) (fadd a0 b0)
def fzero : (k : Nat) → F k
  | 0 => .bit false
  | k + 1 => .pair (fzero k) (fzero k)
def fone : (k : Nat) → F k
  | 0 => .bit true
  | k + 1 => .pair (fzero k) (fone k)
def fh : (k : Nat) → F k
  | 0 => .bit true
  | k + 1 => .pair (fh k) (fzero k)
def fmul : {k : Nat} → F k → F k → F k
  | _, .bit a, .bit b => .bit (and a b)
  | _, .pair (k := k) a1 a0, .pair b1 b0 => .pair (fadd (fadd (fmul a1 b1) (fmul a1 b0)) (fmul a0 b1)) (fadd (fmul a0 b0) (fmul (fmul a1 b1) (fh k)))
instance (k : Nat) : Add (F k) := ⟨fadd⟩
instance (k : Nat) : Mul (F k) := ⟨fmul⟩
instance (k : Nat) : OfNat (F k) 0 := ⟨fzero k⟩
instance (k : Nat) : OfNat (F k) 1 := ⟨fone k⟩
theorem add_bit (a b : Bool) : F.bit a + F.bit b = F.bit (xor a b) := rfl
theorem mul_bit (a b : Bool) : F.bit a * F.bit b = F.bit (and a b) := rfl
theorem add_mk {k : Nat} (a1 a0 b1 b0 : F k) : F.pair a1 a0 + F.pair b1 b0 = F.pair (a1 + b1) (a0 + b0) := rfl
theorem mul_mk {k : Nat} (a1 a0 b1 b0 : F k) : F.pair a1 a0 * F.pair b1 b0 = F.pair (a1 * b1 + a1 * b0 + a0 * b1) (a0 * b0 + a1 * b1 * fh k) := rfl
theorem zero_bit : (0 : F 0) = .bit false := rfl
theorem one_bit : (1 : F 0) = .bit true := rfl
theorem zero_mk {k : Nat} : (0 : F (k + 1)) = .pair 0 0 := rfl
theorem one_mk {k : Nat} : (1 : F (k + 1)) = .pair 0 1 := rfl
theorem fadd_comm : ∀ {k : Nat} (a b : F k), a + b = b + a
  | _, .bit a, .bit b => by rw [add_bit, add_bit, Bool.xor_comm]
  | _, .pair a1 a0, .pair b1 b0 => by rw [add_mk, add_mk, fadd_comm a1, fadd_comm a0]
theorem fadd_assoc : ∀ {k : Nat} (a b c : F k), a + b + c = a + (b + c)
  | _, .bit a, .bit b, .bit c => by simp only [add_bit, Bool.xor_assoc]
  | _, .pair a1 a0, .pair b1 b0, .pair c1 c0 => by rw [add_mk, add_mk, add_mk, add_mk, fadd_assoc a1, fadd_assoc a0]
theorem fadd_self : ∀ {k : Nat} (a : F k), a + a = 0
  | _, .bit a => by rw [add_bit, Bool.xor_self]; rfl
  | _, .pair a1 a0 => by rw [add_mk, fadd_self a1, fadd_self a0]; rfl
theorem fzero_add : ∀ {k : Nat} (a : F k), 0 + a = a
  | _, .bit a => by rw [zero_bit, add_bit, Bool.false_xor]
  | _, .pair a1 a0 => by rw [zero_mk, add_mk, fzero_add a1, fzero_add a0]
theorem fadd_zero {k : Nat} (a : F k) : a + 0 = a := by rw [fadd_comm, fzero_add]
theorem fadd_left_comm {k : Nat} (a b c : F k) : a + (b + c) = b + (a + c) := by rw [← fadd_assoc, fadd_comm a, fadd_assoc]
theorem fadd_cancel {k : Nat} (a b : F k) : a + (a + b) = b := by rw [← fadd_assoc, fadd_self, fzero_add]
theorem feq_of_add {k : Nat} {a b : F k} (h : a + b = 0) : a = b := by
  have : a + b + b = b := by rw [h, fzero_add]
  rwa [fadd_assoc, fadd_self, fadd_zero] at this
theorem fzero_mul : ∀ {k : Nat} (a : F k), 0 * a = 0
  | _, .bit a => by rw [zero_bit, mul_bit, Bool.false_and]
  | _, .pair a1 a0 => by rw [zero_mk, mul_mk]; simp only [fzero_mul, fzero_add]
structure Laws (k : Nat) : Prop where
  comm : ∀ a b : F k, a * b = b * a
  dist : ∀ a b c : F k, a * (b + c) = a * b + a * c
  assoc : ∀ a b c : F k, a * b * c = a * (b * c)
  one : ∀ a : F k, 1 * a = a
theorem laws : ∀ k : Nat, Laws k
  | 0 => by
    refine ⟨?_, ?_, ?_, ?_⟩
    · rintro ⟨a⟩ ⟨b⟩; rw [mul_bit, mul_bit, Bool.and_comm]
    · rintro ⟨a⟩ ⟨b⟩ ⟨c⟩; simp only [add_bit, mul_bit, Bool.and_xor_distrib_left]
    · rintro ⟨a⟩ ⟨b⟩ ⟨c⟩; simp only [mul_bit, Bool.and_assoc]
    · rintro ⟨a⟩; rw [one_bit, mul_bit, Bool.true_and]
  | k + 1 => by
    have L := laws k
    have lcomm : ∀ a b c : F k, a * (b * c) = b * (a * c) := fun a b c => by rw [← L.assoc, L.comm a b, L.assoc]
    have distr : ∀ a b c : F k, (b + c) * a = b * a + c * a := fun a b c => by rw [L.comm, L.dist, L.comm a b, L.comm a c]
    refine ⟨?_, ?_, ?_, ?_⟩
    · intro a b
      cases a with | pair a1 a0 =>
      cases b with | pair b1 b0 =>
      rw [mul_mk, mul_mk, L.comm b1 a1, L.comm b1 a0, L.comm b0 a1, L.comm b0 a0, fadd_assoc, fadd_comm (a1 * b0), ← fadd_assoc]
    · rintro ⟨a1, a0⟩ ⟨b1, b0⟩ ⟨c1, c0⟩
      simp only [mul_mk, add_mk, L.dist, distr]
      congr 1 <;> simp only [fadd_assoc, fadd_comm, fadd_left_comm]
    · rintro ⟨a1, a0⟩ ⟨b1, b0⟩ ⟨c1, c0⟩
      simp only [mul_mk, L.dist, distr, L.assoc]
      have e1 : ∀ x : F k, x * fh k = fh k * x := fun x => L.comm _ _
      congr 1
      · simp only [L.comm, lcomm, fadd_assoc, fadd_comm, fadd_left_comm]
      · simp only [L.comm, lcomm, fadd_assoc, fadd_comm, fadd_left_comm]
    · rintro ⟨a1, a0⟩
      rw [one_mk, mul_mk]
      simp only [fzero_mul, fzero_add, L.one, fadd_zero]
theorem fmul_comm {k : Nat} (a b : F k) : a * b = b * a := (laws k).comm a b
theorem fmul_assoc {k : Nat} (a b c : F k) : a * b * c = a * (b * c) := (laws k).assoc a b c
theorem fmul_left_comm {k : Nat} (a b c : F k) : a * (b * c) = b * (a * c) := by rw [← fmul_assoc, fmul_comm a b, fmul_assoc]
theorem fmul_add {k : Nat} (a b c : F k) : a * (b + c) = a * b + a * c := (laws k).dist a b c
theorem fadd_mul {k : Nat} (a b c : F k) : (a + b) * c = a * c + b * c := by rw [fmul_comm, fmul_add, fmul_comm c a, fmul_comm c b]
theorem fone_mul {k : Nat} (a : F k) : 1 * a = a := (laws k).one a
theorem fmul_one {k : Nat} (a : F k) : a * 1 = a := by rw [fmul_comm, fone_mul]
theorem fmul_zero {k : Nat} (a : F k) : a * 0 = 0 := by rw [fmul_comm, fzero_mul]
theorem fsq_add {k : Nat} (a b : F k) : (a + b) * (a + b) = a * a + b * b := by
  rw [fmul_add, fadd_mul, fadd_mul, fmul_comm b a, fadd_assoc, fadd_cancel]
def ftop : {k : Nat} → F k → Bool
  | _, .bit a => a
  | _, .pair a1 _ => ftop a1
theorem ftop_h : ∀ k, ftop (fh k) = true
  | 0 => rfl
  | k + 1 => ftop_h k
theorem ftop_sq : ∀ {k : Nat} (t : F k), ftop (t * t + t) = false
  | _, .bit t => by cases t <;> rfl
  | _, .pair t1 t0 => by
    rw [mul_mk, add_mk]
    show ftop (t1 * t1 + t1 * t0 + t0 * t1 + t1) = false
    rw [fmul_comm t0 t1, fadd_assoc (t1 * t1), fadd_self, fadd_zero]
    exact ftop_sq t1
theorem fh_ne {k : Nat} (t : F k) : t * t + t ≠ fh k := fun h => by
  have h1 := ftop_sq t
  rw [h, ftop_h] at h1
  cases h1
theorem fone_ne : ∀ k : Nat, (1 : F k) ≠ 0
  | 0 => fun h => by cases h
  | k + 1 => fun h => by
    have e := congrArg (fun x : F (k + 1) => match x with | .pair _ a0 => a0) h
    exact fone_ne k e
theorem finv : ∀ {k : Nat} (a : F k), a ≠ 0 → ∃ b : F k, a * b = 1
  | _, .bit a, h => ⟨.bit true, by
    cases a with
    | false => exact absurd rfl h
    | true => rfl⟩
  | _, .pair (k := k) a1 a0, h => by
    have nz : ∀ x : F k, x ≠ 0 → ∀ y : F k, x * y = 0 → y = 0 := fun x hx y e => by
      obtain ⟨z, hz⟩ := finv x hx
      have : z * (x * y) = y := by rw [← fmul_assoc, fmul_comm z x, hz, fone_mul]
      rw [← this, e, fmul_zero]
    have hN : a0 * a0 + a0 * a1 + a1 * a1 * fh k ≠ 0 := by
      intro e
      by_cases h1 : a1 = 0
      · subst h1
        rw [fmul_zero, fadd_zero, fzero_mul, fzero_mul, fadd_zero] at e
        by_cases h0 : a0 = 0
        · subst h0; exact h rfl
        · exact h0 (nz a0 h0 a0 e)
      · obtain ⟨b, hb⟩ := finv a1 h1
        have e2 : (a0 * b) * (a0 * b) + a0 * b + fh k = 0 := by
          have e3 : b * b * (a0 * a0 + a0 * a1 + a1 * a1 * fh k) = 0 := by rw [e, fmul_zero]
          have t1 : b * b * (a0 * a0) = (a0 * b) * (a0 * b) := by simp only [fmul_assoc, fmul_comm, fmul_left_comm]
          have t2 : b * b * (a0 * a1) = a0 * b := by
            have : b * b * (a0 * a1) = (a0 * b) * (a1 * b) := by simp only [fmul_assoc, fmul_comm, fmul_left_comm]
            rw [this, hb, fmul_one]
          have t3 : b * b * (a1 * a1 * fh k) = fh k := by
            have : b * b * (a1 * a1 * fh k) = (a1 * b) * ((a1 * b) * fh k) := by simp only [fmul_assoc, fmul_comm, fmul_left_comm]
            rw [this, hb, fone_mul, fone_mul]
          rw [fmul_add, fmul_add, t1, t2, t3] at e3
          exact e3
        exact fh_ne _ (feq_of_add e2)
    obtain ⟨m, hm⟩ := finv _ hN
    refine ⟨.pair (a1 * m) ((a0 + a1) * m), ?_⟩
    rw [mul_mk, one_mk]
    have p1 : a1 * (a1 * m) + a1 * ((a0 + a1) * m) + a0 * (a1 * m) = 0 := by
      rw [fadd_mul, fmul_add, fmul_left_comm a0 a1 m, fadd_comm (a1 * (a0 * m)), ← fadd_assoc, fadd_self, fzero_add, fadd_self]
    have p0 : a0 * ((a0 + a1) * m) + a1 * (a1 * m) * fh k = 1 := by
      rw [← hm]
      simp only [fadd_mul, fmul_add]
      simp only [fmul_assoc, fmul_comm, fmul_left_comm, fadd_assoc, fadd_comm, fadd_left_comm]
    rw [p1, p0]
theorem fmul_eq_zero {k : Nat} {a b : F k} (ha : a ≠ 0) (h : a * b = 0) : b = 0 := by
  obtain ⟨z, hz⟩ := finv a ha
  have : z * (a * b) = b := by rw [← fmul_assoc, fmul_comm z a, hz, fone_mul]
  rw [← this, h, fmul_zero]
theorem fmul_cancel {k : Nat} {a b c : F k} (ha : a ≠ 0) (h : a * b = a * c) : b = c := by
  refine feq_of_add (fmul_eq_zero ha ?_)
  rw [fmul_add, h, fadd_self]
def fpow {k : Nat} (a : F k) : Nat → F k
  | 0 => 1
  | n + 1 => a * fpow a n
theorem fpow_add {k : Nat} (a : F k) (m n : Nat) : fpow a (m + n) = fpow a m * fpow a n := by
  induction m with
  | zero => rw [Nat.zero_add]; exact (fone_mul _).symm
  | succ m ih => rw [Nat.succ_add]; show a * fpow a (m + n) = a * fpow a m * fpow a n; rw [ih, fmul_assoc]
theorem fpow_mul {k : Nat} (a b : F k) (n : Nat) : fpow (a * b) n = fpow a n * fpow b n := by
  induction n with
  | zero => exact (fone_mul _).symm
  | succ n ih =>
    show a * b * fpow (a * b) n = a * fpow a n * (b * fpow b n)
    rw [ih]
    simp only [fmul_assoc, fmul_comm, fmul_left_comm]
theorem fpow_two {k : Nat} (a : F k) (n : Nat) : fpow a (2 * n) = fpow (a * a) n := by rw [Nat.two_mul, fpow_add, fpow_mul]
theorem fpow_one {k : Nat} (a : F k) : fpow a 1 = a := fmul_one a
def fsqn {k : Nat} : Nat → F k → F k
  | 0, a => a
  | n + 1, a => fsqn n (a * a)
theorem fsqn_pow {k : Nat} : ∀ (n : Nat) (a : F k), fsqn n a = fpow a (2 ^ n)
  | 0, a => (fpow_one a).symm
  | n + 1, a => by rw [fsqn, fsqn_pow n, Nat.pow_succ, Nat.mul_comm, fpow_two]
theorem fsqn_add {k : Nat} : ∀ (n : Nat) (a b : F k), fsqn n (a + b) = fsqn n a + fsqn n b
  | 0, a, b => rfl
  | n + 1, a, b => by rw [fsqn, fsqn, fsqn, fsq_add, fsqn_add n]
def fval : {k : Nat} → F k → Nat
  | _, .bit a => a.toNat
  | _, .pair (k := k) a1 a0 => 2 ^ 2 ^ k * fval a1 + fval a0
def fof : (k : Nat) → Nat → F k
  | 0, n => .bit (decide (n % 2 = 1))
  | k + 1, n => .pair (fof k (n / 2 ^ 2 ^ k)) (fof k (n % 2 ^ 2 ^ k))
theorem fval_lt : ∀ {k : Nat} (a : F k), fval a < 2 ^ 2 ^ k
  | _, .bit a => by cases a <;> decide
  | _, .pair (k := k) a1 a0 => by
    have h1 := fval_lt a1
    have h0 := fval_lt a0
    rw [sq_pow]
    show 2 ^ 2 ^ k * fval a1 + fval a0 < _
    generalize 2 ^ 2 ^ k = D at *
    calc D * fval a1 + fval a0 < D * fval a1 + D := by omega
      _ = D * (fval a1 + 1) := by rw [Nat.mul_add, Nat.mul_one]
      _ ≤ D * D := Nat.mul_le_mul_left _ h1
theorem fval_div {k : Nat} (a1 a0 : F k) : fval (F.pair a1 a0) / 2 ^ 2 ^ k = fval a1 := by
  show (2 ^ 2 ^ k * fval a1 + fval a0) / 2 ^ 2 ^ k = _
  rw [Nat.mul_add_div (Nat.two_pow_pos _), Nat.div_eq_of_lt (fval_lt a0), Nat.add_zero]
theorem fval_mod {k : Nat} (a1 a0 : F k) : fval (F.pair a1 a0) % 2 ^ 2 ^ k = fval a0 := by
  show (2 ^ 2 ^ k * fval a1 + fval a0) % 2 ^ 2 ^ k = _
  rw [Nat.mul_add_mod, Nat.mod_eq_of_lt (fval_lt a0)]
theorem fof_val : ∀ {k : Nat} (a : F k), fof k (fval a) = a
  | _, .bit a => by cases a <;> rfl
  | _, .pair (k := k) a1 a0 => by
    show F.pair (fof k (fval (F.pair a1 a0) / 2 ^ 2 ^ k)) (fof k (fval (F.pair a1 a0) % 2 ^ 2 ^ k)) = .pair a1 a0
    rw [fval_div, fval_mod, fof_val a1, fof_val a0]
theorem fval_of : ∀ {k : Nat} (n : Nat), n < 2 ^ 2 ^ k → fval (fof k n) = n
  | 0, n, h => by
    have h' : n < 2 := h
    have : n = 0 ∨ n = 1 := by omega
    rcases this with rfl | rfl <;> rfl
  | k + 1, n, h => by
    show 2 ^ 2 ^ k * fval (fof k (n / 2 ^ 2 ^ k)) + fval (fof k (n % 2 ^ 2 ^ k)) = n
    rw [sq_pow] at h
    rw [fval_of _ (Nat.div_lt_of_lt_mul h), fval_of _ (Nat.mod_lt _ (Nat.two_pow_pos _))]
    exact Nat.div_add_mod _ _
theorem fval_inj {k : Nat} {a b : F k} (h : fval a = fval b) : a = b := by rw [← fof_val a, h, fof_val]
theorem xor_pair (i a1 a0 b1 b0 : Nat) (ha : a0 < 2 ^ i) (hb : b0 < 2 ^ i) : (2 ^ i * a1 + a0) ^^^ (2 ^ i * b1 + b0) = 2 ^ i * (a1 ^^^ b1) + (a0 ^^^ b0) := by
  apply Nat.eq_of_testBit_eq
  intro j
  have hx := Nat.xor_lt_two_pow ha hb
  rw [Nat.testBit_xor, Nat.testBit_two_pow_mul_add _ ha, Nat.testBit_two_pow_mul_add _ hb, Nat.testBit_two_pow_mul_add _ hx]
  split <;> simp [Nat.testBit_xor]
theorem fval_add : ∀ {k : Nat} (a b : F k), fval (a + b) = fval a ^^^ fval b
  | _, .bit a, .bit b => by cases a <;> cases b <;> rfl
  | _, .pair (k := k) a1 a0, .pair b1 b0 => by
    rw [add_mk]
    show 2 ^ 2 ^ k * fval (a1 + b1) + fval (a0 + b0) = (2 ^ 2 ^ k * fval a1 + fval a0) ^^^ (2 ^ 2 ^ k * fval b1 + fval b0)
    rw [xor_pair _ _ _ _ _ (fval_lt a0) (fval_lt b0), fval_add, fval_add]
theorem fval_zero : ∀ k : Nat, fval (0 : F k) = 0
  | 0 => rfl
  | k + 1 => by
    show 2 ^ 2 ^ k * fval (0 : F k) + fval (0 : F k) = 0
    rw [fval_zero k, Nat.mul_zero]
theorem fval_one : ∀ k : Nat, fval (1 : F k) = 1
  | 0 => rfl
  | k + 1 => by
    show 2 ^ 2 ^ k * fval (0 : F k) + fval (1 : F k) = 1
    rw [fval_zero k, fval_one k, Nat.mul_zero]
theorem fval_h : ∀ k : Nat, fval (fh k) = 2 ^ 2 ^ k / 2
  | 0 => rfl
  | k + 1 => by
    show 2 ^ 2 ^ k * fval (fh k) + fval (0 : F k) = 2 ^ 2 ^ (k + 1) / 2
    rw [fval_zero, fval_h k, sq_pow, Nat.add_zero]
    obtain ⟨d, hd⟩ : ∃ d, 2 ^ 2 ^ k = 2 * d := ⟨2 ^ (2 ^ k - 1), by rw [← Nat.pow_succ']; congr 1; have := Nat.one_le_two_pow (n := k); omega⟩
    rw [hd, Nat.mul_div_cancel_left _ (by decide), show 2 * d * (2 * d) = 2 * (2 * d * d) by rw [Nat.mul_assoc 2 d (2 * d), Nat.mul_comm d (2 * d)], Nat.mul_div_cancel_left _ (by decide)]
theorem fval_mul : ∀ {k : Nat} (a b : F k), fval (a * b) = nm k (fval a) (fval b)
  | _, .bit a, .bit b => by cases a <;> cases b <;> rfl
  | _, .pair (k := k) a1 a0, .pair b1 b0 => by
    rw [mul_mk]
    show 2 ^ 2 ^ k * fval (a1 * b1 + a1 * b0 + a0 * b1) + fval (a0 * b0 + a1 * b1 * fh k) = _
    simp only [nm, fval_div, fval_mod, fval_add, fval_mul, fval_h]
theorem fsqn_mul {k : Nat} (n : Nat) (a b : F k) : fsqn n (a * b) = fsqn n a * fsqn n b := by rw [fsqn_pow, fsqn_pow, fsqn_pow, fpow_mul]
theorem fsqn_fsqn {k : Nat} (m : Nat) : ∀ (n : Nat) (a : F k), fsqn (m + n) a = fsqn m (fsqn n a)
  | 0, a => rfl
  | n + 1, a => fsqn_fsqn m n (a * a)
theorem low_add {k : Nat} (a b : F k) : F.pair 0 a + F.pair 0 b = F.pair 0 (a + b) := by rw [add_mk, fadd_self]
theorem low_mul {k : Nat} (a b : F k) : F.pair 0 a * F.pair 0 b = F.pair 0 (a * b) := by
  rw [mul_mk]; simp only [fzero_mul, fmul_zero, fadd_zero]
theorem fsqn_low {k : Nat} : ∀ (n : Nat) (a : F k), fsqn n (F.pair 0 a) = F.pair 0 (fsqn n a)
  | 0, a => rfl
  | n + 1, a => by rw [fsqn, low_mul, fsqn_low n]; rfl
theorem fsqn_x {k : Nat} : ∀ n : Nat, ∃ c : F k, fsqn n (F.pair 1 0) = F.pair 1 0 + F.pair 0 c
  | 0 => ⟨0, (fadd_zero _).symm⟩
  | n + 1 => by
    obtain ⟨c, hc⟩ := fsqn_x (k := k) n
    refine ⟨c + fsqn n (fh k), ?_⟩
    have e : F.pair (1 : F k) 0 * F.pair 1 0 = F.pair 1 0 + F.pair 0 (fh k) := by
      rw [mul_mk, add_mk]; simp only [fzero_mul, fmul_zero, fadd_zero, fone_mul, fzero_add]
    rw [fsqn, e, fsqn_add, hc, fsqn_low, fadd_assoc, low_add]
theorem fsqn_self : ∀ {k : Nat} (a : F k), fsqn (2 ^ k) a = a
  | _, .bit a => by cases a <;> rfl
  | _, .pair (k := k) a1 a0 => by
    have e : F.pair a1 a0 = F.pair 0 a1 * F.pair 1 0 + F.pair 0 a0 := by
      rw [mul_mk, add_mk]; simp only [fzero_mul, fmul_zero, fadd_zero, fmul_one, fzero_add]
    obtain ⟨c, hc⟩ := fsqn_x (k := k) (2 ^ k)
    rw [Nat.pow_succ, Nat.mul_two, fsqn_fsqn, e]
    simp only [fsqn_add, fsqn_mul, fsqn_low, fsqn_self a1, fsqn_self a0, hc, fsqn_self c]
    rw [fadd_assoc (F.pair 1 0), fadd_self, fadd_zero]
theorem fpow_self {k : Nat} (a : F k) : fpow a (2 ^ 2 ^ k) = a := by rw [← fsqn_pow, fsqn_self]
theorem fpow_ord {k : Nat} {a : F k} (h : a ≠ 0) : fpow a (2 ^ 2 ^ k - 1) = 1 := by
  have e := fpow_self a
  have hp := Nat.two_pow_pos (2 ^ k)
  rw [show 2 ^ 2 ^ k = (2 ^ 2 ^ k - 1) + 1 by omega] at e
  have e2 : a * fpow a (2 ^ 2 ^ k - 1) = a * 1 := by rw [fmul_one]; exact e
  exact fmul_cancel h e2
theorem fpow_inv {a : F 4} (h : a ≠ 0) : a * fpow a 65534 = 1 := fpow_ord h
end Go.Proofs.Ytadfobooofkelaa.Nim

namespace Go.Proofs.Ytadfobooofkelaa.X
set_option linter.unusedSimpArgs false
set_option linter.unusedVariables false
open Go.RowKit Go.Proofs.YtadfobooofkelaaW.PrintWords Go.Proofs.YtadfobooofkelaaW.PrintLast Go.Proofs.YtadfobooofkelaaW.PrintMore Go.Proofs.Ytadfobooofkelaa.Nim
theorem p_w64 {x : Int} (h : -9223372036854775808 ≤ x) (h2 : x ≤ 9223372036854775807) : wrap64 x = x := by unfold wrap64; omega
theorem wrap_u32 (n : Int) : IntKind.u32.wrap n = n % 4294967296 := by simp [IntKind.wrap, IntKind.bits, IntKind.signed]
theorem p_pos {α : Type} {c : Prop} [Decidable c] {g f : Nat → Option α} {r : α} (h : c) (e : Ev g r) : Ev (fun k => if c then g k else f k) r := Ev.congr (fun _ => if_pos h) e
theorem p_neg {α : Type} {c : Prop} [Decidable c] {g f : Nat → Option α} {r : α} (h : ¬ c) (e : Ev f r) : Ev (fun k => if c then g k else f k) r := Ev.congr (fun _ => if_neg h) e
theorem and32 (a b : Nat) (ha : a < 2 ^ 32) (hb : b < 2 ^ 32) : Go.bits .and .u32 (a : Int) (b : Int) = ((a &&& b : Nat) : Int) := by
  have hr : (a &&& b) < 2 ^ 32 := Nat.and_lt_two_pow _ hb
  simp only [Go.bits, BitVec.ofInt_natCast, BitVec.toNat_and, BitVec.toNat_ofNat]
  rw [wrap_u32]
  have e1 : a % 2 ^ IntKind.u32.bits = a := Nat.mod_eq_of_lt ha
  have e2 : b % 2 ^ IntKind.u32.bits = b := Nat.mod_eq_of_lt hb
  rw [e1, e2]
  omega
theorem or32 (a b : Nat) (ha : a < 2 ^ 32) (hb : b < 2 ^ 32) : Go.bits .or .u32 (a : Int) (b : Int) = ((a ||| b : Nat) : Int) := by
  have hr : (a ||| b) < 2 ^ 32 := Nat.or_lt_two_pow ha hb
  simp only [Go.bits, BitVec.ofInt_natCast, BitVec.toNat_or, BitVec.toNat_ofNat]
  rw [wrap_u32]
  have e1 : a % 2 ^ IntKind.u32.bits = a := Nat.mod_eq_of_lt ha
  have e2 : b % 2 ^ IntKind.u32.bits = b := Nat.mod_eq_of_lt hb
  rw [e1, e2]
  omega
theorem xor32 (a b : Nat) (ha : a < 2 ^ 32) (hb : b < 2 ^ 32) : Go.bits .xor .u32 (a : Int) (b : Int) = ((a ^^^ b : Nat) : Int) := by
  have hr : (a ^^^ b) < 2 ^ 32 := Nat.xor_lt_two_pow ha hb
  simp only [Go.bits, BitVec.ofInt_natCast, BitVec.toNat_xor, BitVec.toNat_ofNat]
  rw [wrap_u32]
  have e1 : a % 2 ^ IntKind.u32.bits = a := Nat.mod_eq_of_lt ha
  have e2 : b % 2 ^ IntKind.u32.bits = b := Nat.mod_eq_of_lt hb
  rw [e1, e2]
  omega
theorem shr32 (a h : Nat) (hh : h ≤ 32) : shr .u32 (a : Int) (h : Int) = ((a / 2 ^ h : Nat) : Int) := by
  unfold shr
  rw [show min ((h : Int)).toNat IntKind.u32.bits = h by simp [IntKind.bits]; omega]
  simp
theorem shl32 (a h : Nat) (hh : h ≤ 32) (hb : a * 2 ^ h < 2 ^ 32) : shl .u32 (a : Int) (h : Int) = ((a * 2 ^ h : Nat) : Int) := by
  unfold shl
  rw [show min ((h : Int)).toNat IntKind.u32.bits = h by simp [IntKind.bits]; omega, wrap_u32]
  have : ((a : Int) * 2 ^ h) = ((a * 2 ^ h : Nat) : Int) := by simp
  rw [this]
  omega
theorem mask32 (a h : Nat) (ha : a < 2 ^ 32) (hh : h ≤ 16) : Go.bits .and .u32 (a : Int) (((shl .u32 1 (h : Int)) - 1) % 4294967296) = ((a % 2 ^ h : Nat) : Int) := by
  have hp : 2 ^ h ≤ 2 ^ 16 := Nat.pow_le_pow_right (by decide) hh
  have hp0 := Nat.two_pow_pos h
  have e := shl32 1 h (by omega) (by omega)
  rw [show ((1 : Nat) : Int) = 1 from rfl] at e
  rw [e, show (((1 * 2 ^ h : Nat) : Int) - 1) % 4294967296 = ((2 ^ h - 1 : Nat) : Int) by omega, and32 a _ ha (by omega), Nat.and_two_pow_sub_one_eq_mod]
theorem join32 (s t h : Nat) (hh : h ≤ 8) (hs : s < 2 ^ h) (ht : t < 2 ^ h) : Go.bits .or .u32 (shl .u32 (s : Int) (h : Int)) (t : Int) = ((2 ^ h * s + t : Nat) : Int) := by
  have hp : 2 ^ h ≤ 2 ^ 8 := Nat.pow_le_pow_right (by decide) hh
  have hb : s * 2 ^ h < 2 ^ 32 := by
    calc s * 2 ^ h ≤ 2 ^ 8 * 2 ^ 8 := Nat.mul_le_mul (by omega) hp
      _ < 2 ^ 32 := by decide
  rw [shl32 s h (by omega) hb, or32 _ _ hb (by omega), Nat.mul_comm s, Nat.two_pow_add_eq_or_of_lt ht]
theorem join32' (s t h : Nat) (hh : h ≤ 8) (hs : s < 2 ^ h) (ht : t < 2 ^ h) : Go.bits .or .u32 (t : Int) (shl .u32 (s : Int) (h : Int)) = ((2 ^ h * s + t : Nat) : Int) := by
  have hp : 2 ^ h ≤ 2 ^ 8 := Nat.pow_le_pow_right (by decide) hh
  have hb : s * 2 ^ h < 2 ^ 32 := by
    calc s * 2 ^ h ≤ 2 ^ 8 * 2 ^ 8 := Nat.mul_le_mul (by omega) hp
      _ < 2 ^ 32 := by decide
  rw [shl32 s h (by omega) hb, or32 _ _ (by omega) hb, Nat.or_comm, Nat.mul_comm s, Nat.two_pow_add_eq_or_of_lt ht]
theorem halfbits (j : Nat) (hj : j ≤ 3) : wrap64 (Int.tdiv ((2 ^ (j + 1) : Nat) : Int) 2) = ((2 ^ j : Nat) : Int) := by
  rcases (show j = 0 ∨ j = 1 ∨ j = 2 ∨ j = 3 by omega) with rfl | rfl | rfl | rfl <;> decide +kernel
theorem fv_lt32 {j : Nat} (hj : j ≤ 4) (a : F j) : fval a < 2 ^ 32 := by
  have h := fval_lt a
  have h4 : 2 ^ j ≤ 2 ^ 4 := Nat.pow_le_pow_right (by decide) hj
  have : 2 ^ 2 ^ j ≤ 2 ^ 16 := Nat.pow_le_pow_right (by decide) h4
  omega
theorem pow_le8 (j : Nat) (hj : j ≤ 3) : 2 ^ j ≤ 8 := show 2 ^ j ≤ 2 ^ 3 from Nat.pow_le_pow_right (by decide) hj
theorem pow_nn (j : Nat) : (0 : Int) ≤ ((2 ^ j : Nat) : Int) := Int.natCast_nonneg _
theorem half_ev : ∀ (j : Nat) (a : F j), j ≤ 4 → Ev (fun k => impl_half.f k (fval a : Nat) ((2 ^ j : Nat) : Int)) ((fval (a * fh j) : Nat) : Int)
  | 0, a, _ => by
    refine Ev.step (f := fun k => impl_half.j0 k ((fval a : Nat) : Int) ((2 ^ 0 : Nat) : Int) true) (fun k => by simp only [impl_half.f]; rw [if_pos (by decide)]) ?_
    refine Ev.step (f := fun _ => some ((fval a : Nat) : Int)) (fun k => by simp only [impl_half.j0, if_true]) ?_
    rw [show a * fh 0 = a from fmul_one a]
    exact Ev.now _
  | j + 1, .pair a1 a0, hj => by
    have hj3 : j ≤ 3 := by omega
    have h8 := pow_le8 j hj3
    have hne : ¬ ((2 ^ (j + 1) : Nat) : Int) = 1 := by
      have : 2 ≤ 2 ^ (j + 1) := by rw [Nat.pow_succ]; have := Nat.one_le_two_pow (n := j); omega
      omega
    have ha := fv_lt32 hj (.pair a1 a0)
    refine Ev.step (fun k => by simp only [impl_half.f]; rfl) (p_neg hne ?_)
    by_cases h0 : fval (F.pair a1 a0) = 0
    · have hz : F.pair a1 a0 = 0 := fval_inj (by rw [h0, fval_zero])
      refine Ev.step (f := fun _ => some ((fval (F.pair a1 a0) : Nat) : Int)) (fun k => ?_) ?_
      · simp only [impl_half.j0]; rw [if_pos (by rw [h0]; rfl)]
      · rw [hz, fzero_mul]; exact Ev.now _
    · refine Ev.step (f := fun k => (impl_half.f k ((fval a1 : Nat) : Int) ((2 ^ j : Nat) : Int)).bind fun t101 => (impl_half.f k t101 ((2 ^ j : Nat) : Int)).bind fun t102 => (impl_half.f k ((fval a0 : Nat) : Int) ((2 ^ j : Nat) : Int)).bind fun t103 => some (Go.bits .or .u32 t102 (shl .u32 (Go.bits .xor .u32 t101 t103) ((2 ^ j : Nat) : Int)))) (fun k => ?_) (Ev.bind (half_ev j a1 (by omega)) (Ev.bind (half_ev j (a1 * fh j) (by omega)) (Ev.bind (half_ev j a0 (by omega)) ?_)))
      · simp only [impl_half.j0]
        rw [if_neg (by simpa using h0), halfbits j hj3, if_pos (pow_nn j), shr32 _ _ (by omega), mask32 _ _ ha (by omega), fval_div, fval_mod]
      · have l1 := fv_lt32 (by omega) (a1 * fh j)
        have l2 := fv_lt32 (by omega) (a0 * fh j)
        rw [xor32 _ _ l1 l2, ← fval_add, join32' _ _ _ h8 (fval_lt _) (fval_lt _)]
        have e : F.pair a1 a0 * fh (j + 1) = F.pair (a1 * fh j + a0 * fh j) (a1 * fh j * fh j) := by
          show F.pair a1 a0 * F.pair (fh j) 0 = _
          rw [mul_mk]
          simp only [fmul_zero, fadd_zero, fzero_add]
        rw [e]
        exact Ev.now _
theorem product_ev : ∀ (j : Nat) (a b : F j), j ≤ 4 → Ev (fun k => impl_product.f k (fval a : Nat) (fval b : Nat) ((2 ^ j : Nat) : Int)) ((fval (a * b) : Nat) : Int) := by
  intro j
  induction j with
  | zero =>
    intro a b _
    cases a with | bit a =>
    cases b with | bit b =>
    have z : ∀ a b : Bool, impl_product.f 3 ((fval (F.bit a) : Nat) : Int) ((fval (F.bit b) : Nat) : Int) ((2 ^ 0 : Nat) : Int) = some ((fval (F.bit a * F.bit b) : Nat) : Int) := by decide +kernel
    exact Ev.of (fun k => impl_product.mono _ _ _ k) (z a b)
  | succ j ih =>
    intro a b hj
    have hj3 : j ≤ 3 := by omega
    have h8 := pow_le8 j hj3
    have ha := fv_lt32 hj a
    have hb := fv_lt32 hj b
    by_cases a0 : fval a = 0
    · have hz : a = 0 := fval_inj (by rw [a0, fval_zero])
      refine Ev.step (f := fun k => impl_product.j0 k ((fval a : Nat) : Int) ((fval b : Nat) : Int) ((2 ^ (j + 1) : Nat) : Int) true) (fun k => by simp only [impl_product.f]; rw [if_pos (by omega)]) (Ev.step (f := fun _ => some 0) (fun k => by simp only [impl_product.j0, if_true]) ?_)
      rw [hz, fzero_mul, fval_zero]; exact Ev.now _
    refine Ev.step (f := fun k => impl_product.j0 k ((fval a : Nat) : Int) ((fval b : Nat) : Int) ((2 ^ (j + 1) : Nat) : Int) (((fval b : Nat) : Int) == 0)) (fun k => by simp only [impl_product.f]; rw [if_neg (by omega)]) ?_
    by_cases b0 : fval b = 0
    · have hz : b = 0 := fval_inj (by rw [b0, fval_zero])
      refine Ev.step (f := fun _ => some 0) (fun k => by simp only [impl_product.j0]; rw [if_pos (by rw [b0]; rfl)]) ?_
      rw [hz, fmul_zero, fval_zero]; exact Ev.now _
    refine Ev.step (fun k => by simp only [impl_product.j0]; rw [if_neg (by simpa using b0)]) ?_
    by_cases a1 : fval a = 1
    · have hz : a = 1 := fval_inj (by rw [a1, fval_one])
      refine p_pos (by omega) ?_
      rw [hz, fone_mul]; exact Ev.now _
    refine p_neg (by omega) ?_
    by_cases b1 : fval b = 1
    · have hz : b = 1 := fval_inj (by rw [b1, fval_one])
      refine p_pos (by omega) ?_
      rw [hz, fmul_one]; exact Ev.now _
    refine p_neg (by omega) ?_
    cases a with | pair x1 x0 =>
    cases b with | pair y1 y0 =>
    rw [halfbits j hj3]
    refine p_pos (pow_nn j) ?_
    rw [shr32 _ _ (by omega), shr32 _ _ (by omega), mask32 _ _ ha (by omega), mask32 _ _ hb (by omega), fval_div, fval_mod, fval_div, fval_mod]
    have full : Ev (fun k => impl_product.j1 k ((2 ^ j : Nat) : Int) ((fval x0 : Nat) : Int) ((fval x1 : Nat) : Int) ((fval y0 : Nat) : Int) ((fval y1 : Nat) : Int) false) ((fval (F.pair x1 x0 * F.pair y1 y0) : Nat) : Int) := by
      refine Ev.step (fun k => by simp only [impl_product.j1, Bool.false_eq_true, if_false]; rfl) (Ev.bind (ih x1 y1 (by omega)) (Ev.bind (ih x0 y0 (by omega)) ?_))
      rw [xor32 _ _ (fv_lt32 (by omega) x0) (fv_lt32 (by omega) x1), xor32 _ _ (fv_lt32 (by omega) y0) (fv_lt32 (by omega) y1), ← fval_add, ← fval_add]
      refine Ev.bind (ih (x0 + x1) (y0 + y1) (by omega)) (p_pos (pow_nn j) (Ev.bind (half_ev j (x1 * y1) (by omega)) ?_))
      rw [xor32 _ _ (fv_lt32 (by omega) _) (fv_lt32 (by omega) _), ← fval_add, join32 _ _ _ h8 (fval_lt _) (fval_lt _)]
      have hp : (2 ^ 2 ^ j * fval ((x0 + x1) * (y0 + y1) + x0 * y0) + fval (x0 * y0)) = fval (F.pair ((x0 + x1) * (y0 + y1) + x0 * y0) (x0 * y0)) := rfl
      have hq : fval (x1 * y1 * fh j) = fval (F.pair 0 (x1 * y1 * fh j)) := by
        show _ = 2 ^ 2 ^ j * fval (0 : F j) + fval (x1 * y1 * fh j)
        rw [fval_zero, Nat.mul_zero, Nat.zero_add]
      rw [hp, hq, xor32 _ _ (fv_lt32 hj _) (fv_lt32 hj _), ← fval_add]
      have e : F.pair ((x0 + x1) * (y0 + y1) + x0 * y0) (x0 * y0) + F.pair 0 (x1 * y1 * fh j) = F.pair x1 x0 * F.pair y1 y0 := by
        rw [add_mk, mul_mk, fadd_zero]
        congr 1
        simp only [fadd_mul, fmul_add]
        have : ∀ a b c d : F j, a + b + (c + d) + a = d + b + c := fun a b c d => by
          simp only [fadd_assoc, fadd_comm, fadd_left_comm, fadd_cancel, fadd_self, fadd_zero, fzero_add]
        exact this (x0 * y0) (x1 * y0) (x0 * y1) (x1 * y1)
      rw [e]
      exact Ev.now _
    by_cases hx : fval x1 = 0
    · refine p_pos (by omega) ?_
      by_cases hy : fval y1 = 0
      · have zx : x1 = 0 := fval_inj (by rw [hx, fval_zero])
        have zy : y1 = 0 := fval_inj (by rw [hy, fval_zero])
        refine Ev.step (fun k => by simp only [impl_product.j1]; rw [if_pos (by rw [hy]; rfl)]) (Ev.bind (ih x0 y0 (by omega)) ?_)
        have e : fval (F.pair x1 x0 * F.pair y1 y0) = fval (x0 * y0) := by
          rw [zx, zy, low_mul]
          show 2 ^ 2 ^ j * fval (0 : F j) + fval (x0 * y0) = _
          rw [fval_zero, Nat.mul_zero, Nat.zero_add]
        rw [e]
        exact Ev.now _
      · rw [show (((fval y1 : Nat) : Int) == 0) = false by simpa using hy]
        exact full
    · exact p_neg (by omega) full
def tI (a : F 4) : Int := (fval a : Nat)
theorem tI_lt (a : F 4) : 0 ≤ tI a ∧ tI a < 65536 := by have := fval_lt a; unfold tI; omega
theorem times_evF (a b : F 4) : Ev (fun k => impl_times.f k (tI a) (tI b)) (tI (a * b)) := by
  unfold impl_times.f
  have h1 := tI_lt a
  have h2 := tI_lt b
  have h3 := tI_lt (a * b)
  rw [show tI a % 4294967296 = tI a by omega, show tI b % 4294967296 = tI b by omega]
  refine Ev.bind (product_ev 4 a b (by decide)) ?_
  rw [show IntKind.u16.wrap ((fval (a * b) : Nat) : Int) = tI (a * b) by rw [Nim.wrap_u16]; show tI (a * b) % 65536 = _; omega]
  exact Ev.now _
end Go.Proofs.Ytadfobooofkelaa.X

namespace Go.Proofs.Ytadfobooofkelaa.X
open Go.RowKit Go.Proofs.YtadfobooofkelaaW.PrintWords Go.Proofs.YtadfobooofkelaaW.PrintLast Go.Proofs.YtadfobooofkelaaW.PrintMore Go.Proofs.Ytadfobooofkelaa.Nim
set_option linter.unusedSimpArgs false
set_option linter.unusedVariables false
theorem ev_some {α β : Type} {g : Option α} {f : Nat → α → Option β} {a : α} {r : β} (h : g = some a) (e : Ev (fun n => f n a) r) : Ev (fun n => g.bind (f n)) r := Ev.bind (g := fun _ => g) ⟨0, fun _ _ => h⟩ e
theorem tI_zero : tI 0 = 0 := by unfold tI; rw [fval_zero]; rfl
theorem tI_one : tI 1 = 1 := by unfold tI; rw [fval_one]; rfl
theorem tI_inj {a b : F 4} (h : tI a = tI b) : a = b := fval_inj (by unfold tI at h; omega)
theorem tI_eq0 {a : F 4} : tI a = 0 ↔ a = 0 := ⟨fun h => tI_inj (h.trans tI_zero.symm), fun h => by rw [h, tI_zero]⟩
theorem tI_xor (a b : F 4) : Go.bits .xor .u16 (tI a) (tI b) = tI (a + b) := by
  have h1 := tI_lt a
  have h2 := tI_lt b
  rw [Nim.xor16 _ _ h1.1 h1.2 h2.1 h2.2]
  unfold tI
  rw [Int.toNat_natCast, Int.toNat_natCast, fval_add]
theorem tI_of (x : Int) (h1 : 0 ≤ x) (h2 : x < 65536) : tI (fof 4 x.toNat) = x := by
  unfold tI
  rw [fval_of x.toNat (by show x.toNat < 65536; omega)]
  omega
theorem times_spec (a b : F 4) : spec_l01Times.f (tI a) (tI b) = some (tI (a * b)) := by
  have h1 := tI_lt a
  have h2 := tI_lt b
  unfold spec_l01Times.f
  rw [if_pos ⟨h1.1, h1.2, h2.1, h2.2⟩]
  unfold Nim.nmI tI
  rw [Int.toNat_natCast, Int.toNat_natCast, fval_mul]
abbrev tL (p : List (F 4)) : List Int := p.map tI
theorem and1_64 (m : Nat) (h : m < 2 ^ 62) : Go.bits .and .i64 (m : Int) 1 = ((m % 2 : Nat) : Int) := by
  have e : Go.bits .and .i64 (m : Int) 1 = IntKind.i64.wrap (((m % 2 ^ 64) &&& 1 : Nat) : Int) := by
    simp only [Go.bits, BitVec.ofInt_natCast, BitVec.toNat_and, BitVec.toNat_ofNat]
    rfl
  rw [e, Nat.and_one_is_mod]
  have : ((m % 2 ^ 64 % 2 : Nat) : Int) = ((m % 2 : Nat) : Int) := by omega
  rw [this]
  have h2 : m % 2 < 2 := Nat.mod_lt _ (by decide)
  have : m % 2 = 0 ∨ m % 2 = 1 := by omega
  rcases this with h | h <;> rw [h] <;> decide +kernel
theorem odd_step (out a : F 4) (m : Nat) (h : m % 2 = 1) : out * a * fpow (a * a) (m / 2) = out * fpow a m := by
  have e : m = 2 * (m / 2) + 1 := by omega
  rw [← fpow_two, fmul_assoc]
  conv => rhs; rw [e]
  rfl
theorem even_step (out a : F 4) (m : Nat) (h : m % 2 = 0) : out * fpow (a * a) (m / 2) = out * fpow a m := by
  have e : m = 2 * (m / 2) := by omega
  rw [← fpow_two]
  conv => rhs; rw [e]
theorem specPower_l0 : ∀ (m : Nat) (a out : F 4), m < 2 ^ 62 → Ev (fun k => spec_l01Power.l0 k (tI a) (m : Int) (tI out)) (tI (out * fpow a m)) := by
  intro m
  induction m using Nat.strongRecOn with
  | ind m ih =>
    intro a out hm
    by_cases h0 : m = 0
    · subst h0
      refine Ev.step (f := fun _ => some (tI out)) (fun k => ?_) ?_
      · simp only [spec_l01Power.l0]; rw [if_neg (by omega)]
      · rw [show out * fpow a 0 = out from fmul_one out]; exact Ev.now _
    · have e1 : Int.tmod (m : Int) 2 = ((m % 2 : Nat) : Int) := by rw [Int.tmod_eq_emod_of_nonneg (by omega)]; omega
      have e2 : wrap64 (Int.tdiv (m : Int) 2) = ((m / 2 : Nat) : Int) := by rw [Int.tdiv_eq_ediv_of_nonneg (by omega), p_w64 (by omega) (by omega)]; omega
      by_cases hp : m % 2 = 1
      · have := ih (m / 2) (by omega) (a * a) (out * a) (by omega)
        rw [odd_step out a m hp] at this
        refine Ev.step (fun k => ?_) this
        simp only [spec_l01Power.l0, times_spec, Option.bind_some, e1, e2]
        rw [if_pos (by omega), if_pos (by omega)]
      · have := ih (m / 2) (by omega) (a * a) out (by omega)
        rw [even_step out a m (by omega)] at this
        refine Ev.step (fun k => ?_) this
        simp only [spec_l01Power.l0, times_spec, Option.bind_some, e1, e2]
        rw [if_pos (by omega), if_neg (by omega)]
theorem implPower_l0 : ∀ (m : Nat) (a out : F 4), m < 2 ^ 62 → Ev (fun k => impl_power.l0 k (tI a) (m : Int) (tI out)) (tI (out * fpow a m)) := by
  intro m
  induction m using Nat.strongRecOn with
  | ind m ih =>
    intro a out hm
    by_cases h0 : m = 0
    · subst h0
      refine Ev.step (f := fun _ => some (tI out)) (fun k => ?_) ?_
      · simp only [impl_power.l0]; rw [if_neg (by omega)]
      · rw [show out * fpow a 0 = out from fmul_one out]; exact Ev.now _
    · have e1 := and1_64 m hm
      have e2 : (m : Int) / 2 = ((m / 2 : Nat) : Int) := by omega
      by_cases hp : m % 2 = 1
      · have := ih (m / 2) (by omega) (a * a) (out * a) (by omega)
        rw [odd_step out a m hp] at this
        refine Ev.step (f := fun k => (impl_times.f k (tI out) (tI a)).bind fun t101 => (impl_times.f k (tI a) (tI a)).bind fun t102 => impl_power.l0 k t102 ((m / 2 : Nat) : Int) t101) (fun k => ?_) (Ev.bind (times_evF out a) (Ev.bind (times_evF a a) this))
        simp only [impl_power.l0, e1, e2]
        rw [if_pos (by omega), if_pos (by omega)]
      · have := ih (m / 2) (by omega) (a * a) out (by omega)
        rw [even_step out a m (by omega)] at this
        refine Ev.step (f := fun k => (impl_times.f k (tI a) (tI a)).bind fun t102 => impl_power.l0 k t102 ((m / 2 : Nat) : Int) (tI out)) (fun k => ?_) (Ev.bind (times_evF a a) this)
        simp only [impl_power.l0, e1, e2]
        rw [if_pos (by omega), if_neg (by omega)]
def finvF (a : F 4) : F 4 := fpow a 65534
theorem finvF_mul {a : F 4} (h : a ≠ 0) : a * finvF a = 1 := fpow_inv h
theorem specInv_ev (a : F 4) : Ev (fun k => spec_l01Inverse.f k (tI a)) (tI (finvF a)) := by
  unfold spec_l01Inverse.f spec_l01Power.f
  have := specPower_l0 65534 a 1 (by decide)
  rw [fone_mul, tI_one] at this
  exact Ev.bind this (Ev.now _)
theorem implInv_ev (a : F 4) : Ev (fun k => impl_inverse.f k (tI a)) (tI (finvF a)) := by
  unfold impl_inverse.f impl_power.f
  by_cases h : a = 0
  · subst h
    refine p_pos tI_zero ?_
    have : finvF (0 : F 4) = 0 := by show (0 : F 4) * fpow 0 65533 = 0; rw [fzero_mul]
    rw [this, tI_zero]; exact Ev.now _
  · refine p_neg (fun e => h (tI_eq0.1 e)) ?_
    have := implPower_l0 65534 a 1 (by decide)
    rw [fone_mul, tI_one] at this
    exact Ev.bind this (Ev.now _)
end Go.Proofs.Ytadfobooofkelaa.X

namespace Go.Proofs.Ytadfobooofkelaa.X
open Go.RowKit Go.Proofs.YtadfobooofkelaaW.PrintWords Go.Proofs.YtadfobooofkelaaW.PrintLast Go.Proofs.YtadfobooofkelaaW.PrintMore Go.Proofs.Ytadfobooofkelaa.Nim
set_option linter.unusedSimpArgs false
set_option linter.unusedVariables false
abbrev P2 := Int × Int
def xr (a b : Int) : Int := Go.bits .xor .u16 a b
def redS : P2 → List P2 → P2
  | v, [] => v
  | v, b :: bs => if xr v.1 b.1 < v.1 then redS (xr v.1 b.1, xr v.2 b.2) bs else redS v bs
def swapAt (B : List P2) (i : Nat) : List P2 := (B.set i (B.getD (i - 1) (0, 0))).set (i - 1) (B.getD i (0, 0))
def bub : List P2 → Nat → List P2
  | B, 0 => B
  | B, i + 1 => if (B.getD (i + 1) (0, 0)).1 > (B.getD i (0, 0)).1 then bub (swapAt B (i + 1)) i else B
def own (k : Nat) : Int := shl .u16 1 (k : Int)
def rowOf (k : Nat) : Int := xr (own k) (nmI 4 (own k) (own k))
def nxt (k : Nat) (B : List P2) : List P2 := bub (B ++ [redS (rowOf k, own k) B]) B.length
def Bs : Nat → List P2
  | 0 => []
  | k + 1 => nxt (k + 1) (Bs k)
def rows (B : List P2) : List Int := B.map (·.1)
def froms (B : List P2) : List Int := B.map (·.2)
def imgs (B : List P2) : List S175 := B.map fun p => ⟨p.1, p.2⟩
theorem rows_rd (B : List P2) (i : Nat) : rd (rows B) (i : Int) = (B.getD i (0, 0)).1 := by
  simp only [rd, rows, Int.toNat_natCast, List.getD_eq_getElem?_getD, List.getElem?_map]
  cases B[i]? <;> rfl
theorem froms_rd (B : List P2) (i : Nat) : rd (froms B) (i : Int) = (B.getD i (0, 0)).2 := by
  simp only [rd, froms, Int.toNat_natCast, List.getD_eq_getElem?_getD, List.getElem?_map]
  cases B[i]? <;> rfl
theorem imgs_rd (B : List P2) (i : Nat) : rd_T175 (imgs B) (i : Int) = ⟨(B.getD i (0, 0)).1, (B.getD i (0, 0)).2⟩ := by
  simp only [rd_T175, imgs, Int.toNat_natCast, List.getD_eq_getElem?_getD, List.getElem?_map]
  cases B[i]? <;> rfl
theorem rows_len (B : List P2) : (rows B).length = B.length := by simp [rows]
theorem froms_len (B : List P2) : (froms B).length = B.length := by simp [froms]
theorem imgs_len (B : List P2) : (imgs B).length = B.length := by simp [imgs]
theorem rows_set (B : List P2) (i : Nat) (p : P2) : rows (B.set i p) = (rows B).set i p.1 := by simp [rows, List.map_set]
theorem froms_set (B : List P2) (i : Nat) (p : P2) : froms (B.set i p) = (froms B).set i p.2 := by simp [froms, List.map_set]
theorem drop_P2 (B : List P2) (i : Nat) (h : i < B.length) : B.drop i = B.getD i (0, 0) :: B.drop (i + 1) := by
  rw [List.drop_eq_getElem_cons h]
  simp [List.getD_eq_getElem?_getD, h]
theorem w64n (i : Nat) (h : i < 4611686018427387904) : wrap64 ((i : Int) + 1) = ((i + 1 : Nat) : Int) := by rw [p_w64 (by omega) (by omega)]; rfl
theorem shalf_l1 (x0 x6 x7 : Int) (B : List P2) (hB : B.length ≤ 20) (r : Int × Bool) : ∀ (d i : Nat) (v : P2), B.length - i = d → i ≤ B.length →
    Ev (fun k => spec_l01Half.l2 k x0 (rows (B ++ [redS v (B.drop i)])) (froms (B ++ [redS v (B.drop i)])) x6 x7 (B.length : Int)) r → Ev (fun k => spec_l01Half.l1 k x0 (rows B) (froms B) x6 x7 v.2 v.1 (i : Int)) r := by
  intro d
  induction d with
  | zero =>
    intro i v hd hi h
    have e : i = B.length := by omega
    subst e
    rw [List.drop_length, redS] at h
    refine Ev.step (fun k => ?_) h
    simp only [spec_l01Half.l1, rows_len, froms_len, Option.bind_some]
    rw [if_neg (by omega), if_pos (by omega), if_pos (by omega)]
    simp only [List.length_append, rows_len, List.length_singleton]
    rw [p_w64 (by omega) (by omega)]
    simp [rows, froms]
  | succ d ih =>
    intro i v hd hi h
    have hlt : i < B.length := by omega
    rw [drop_P2 B i hlt, redS] at h
    by_cases hc : xr v.1 (B.getD i (0, 0)).1 < v.1
    · rw [if_pos hc] at h
      refine Ev.step (fun k => ?_) (ih (i + 1) _ (by omega) (by omega) h)
      simp only [spec_l01Half.l1, rows_len, froms_len, rows_rd, froms_rd]
      rw [if_pos (by omega), if_pos (by omega), if_pos (show Go.bits .xor .u16 _ _ < _ from hc), if_pos (by omega), w64n i (by omega)]
      rfl
    · rw [if_neg hc] at h
      refine Ev.step (fun k => ?_) (ih (i + 1) _ (by omega) (by omega) h)
      simp only [spec_l01Half.l1, rows_len, froms_len, rows_rd, froms_rd]
      rw [if_pos (by omega), if_pos (by omega), if_neg (show ¬ Go.bits .xor .u16 _ _ < _ from hc), w64n i (by omega)]
theorem swap_len (B : List P2) (i : Nat) : (swapAt B i).length = B.length := by simp [swapAt]
theorem bub_len : ∀ (i : Nat) (B : List P2), (bub B i).length = B.length
  | 0, B => rfl
  | i + 1, B => by
    rw [bub]
    split
    · rw [bub_len i, swap_len]
    · rfl
theorem shalf_l2 (x0 x6 x7 : Int) (r : Int × Bool) : ∀ (i : Nat) (B : List P2), i < B.length → B.length ≤ 20 →
    Ev (fun k => spec_l01Half.l0 k x0 (rows (bub B i)) (froms (bub B i)) x6 (IntKind.u64.wrap (x7 + 1))) r → Ev (fun k => spec_l01Half.l2 k x0 (rows B) (froms B) x6 x7 (i : Int)) r
  | 0, B, hi, hl, h => by
    refine Ev.step (fun k => ?_) h
    simp only [spec_l01Half.l2]
    rw [if_neg (by omega)]
    rfl
  | i + 1, B, hi, hl, h => by
    have e1 : wrap64 (((i + 1 : Nat) : Int) - 1) = (i : Int) := by rw [p_w64 (by omega) (by omega)]; omega
    rw [bub] at h
    by_cases hc : (B.getD (i + 1) (0, 0)).1 > (B.getD i (0, 0)).1
    · rw [if_pos hc] at h
      refine Ev.step (fun k => ?_) (shalf_l2 x0 x6 x7 r i (swapAt B (i + 1)) (by rw [swap_len]; omega) (by rw [swap_len]; omega) h)
      simp only [spec_l01Half.l2, e1, rows_len, froms_len]
      simp only [rows_rd, froms_rd]
      rw [if_pos (by omega), if_pos (by omega), if_pos (by omega), if_pos (by omega), if_pos (by omega), if_pos hc, if_pos (by omega), if_pos (by omega)]
      simp only [Int.toNat_natCast, swapAt, rows_set, froms_set, Nat.add_sub_cancel]
    · rw [if_neg hc] at h
      refine Ev.step (fun k => ?_) h
      simp only [spec_l01Half.l2, e1, rows_len, froms_len]
      simp only [rows_rd, froms_rd]
      rw [if_pos (by omega), if_pos (by omega), if_pos (by omega), if_pos (by omega), if_pos (by omega), if_neg hc]
theorem shalf_l3 (B : List P2) (hB : B.length ≤ 20) : ∀ (d i : Nat) (v : P2), B.length - i = d → i ≤ B.length →
    Ev (fun k => spec_l01Half.l3 k v.1 (rows B) (froms B) v.2 (i : Int)) ((redS v (B.drop i)).2, (redS v (B.drop i)).1 == 0) := by
  intro d
  induction d with
  | zero =>
    intro i v hd hi
    have e : i = B.length := by omega
    subst e
    rw [List.drop_length, redS]
    refine Ev.step (f := fun _ => some (v.2, v.1 == 0)) (fun k => ?_) (Ev.now _)
    simp only [spec_l01Half.l3, rows_len]
    rw [if_neg (by omega)]
  | succ d ih =>
    intro i v hd hi
    have hlt : i < B.length := by omega
    rw [drop_P2 B i hlt, redS]
    by_cases hc : xr v.1 (B.getD i (0, 0)).1 < v.1
    · rw [if_pos hc]
      refine Ev.step (fun k => ?_) (ih (i + 1) _ (by omega) (by omega))
      simp only [spec_l01Half.l3, rows_len, froms_len, rows_rd, froms_rd]
      rw [if_pos (by omega), if_pos (by omega), if_pos (show Go.bits .xor .u16 _ _ < _ from hc), if_pos (by omega), w64n i (by omega)]
      rfl
    · rw [if_neg hc]
      refine Ev.step (fun k => ?_) (ih (i + 1) _ (by omega) (by omega))
      simp only [spec_l01Half.l3, rows_len, froms_len, rows_rd, froms_rd]
      rw [if_pos (by omega), if_pos (by omega), if_neg (show ¬ Go.bits .xor .u16 _ _ < _ from hc), w64n i (by omega)]
theorem Bs_len : ∀ k, (Bs k).length = k
  | 0 => rfl
  | k + 1 => by rw [Bs, nxt, bub_len]; simp [Bs_len k]
theorem shalf_l0 (x0 : Int) (r : Int × Bool) (hr : Ev (fun k => spec_l01Half.l3 k x0 (rows (Bs 15)) (froms (Bs 15)) 0 0) r) : ∀ (d j : Nat), 15 - j = d → j ≤ 15 →
    Ev (fun k => spec_l01Half.l0 k x0 (rows (Bs j)) (froms (Bs j)) 0 ((j + 1 : Nat) : Int)) r := by
  intro d
  induction d with
  | zero =>
    intro j hd hj
    have e : j = 15 := by omega
    subst e
    refine Ev.step (fun k => ?_) hr
    simp only [spec_l01Half.l0]
    rw [if_neg (by omega)]
  | succ d ih =>
    intro j hd hj
    have hw : IntKind.u64.wrap (((j + 1 : Nat) : Int) + 1) = ((j + 1 + 1 : Nat) : Int) := by
      simp [IntKind.wrap, IntKind.bits, IntKind.signed]; omega
    have hnext := ih (j + 1) (by omega) (by omega)
    have hl := Bs_len j
    have h2 : Ev (fun k => spec_l01Half.l2 k x0 (rows (Bs j ++ [redS (rowOf (j + 1), own (j + 1)) (Bs j)])) (froms (Bs j ++ [redS (rowOf (j + 1), own (j + 1)) (Bs j)])) 0 ((j + 1 : Nat) : Int) ((Bs j).length : Int)) r := by
      refine shalf_l2 x0 0 _ r (Bs j).length _ (by simp) (by simp; omega) ?_
      rw [hw]
      exact hnext
    have h1 := shalf_l1 x0 0 ((j + 1 : Nat) : Int) (Bs j) (by omega) r (Bs j).length 0 (rowOf (j + 1), own (j + 1)) (by omega) (by omega) h2
    have hown : 0 ≤ own (j + 1) ∧ own (j + 1) < 65536 := by
      have : ∀ i, i < 16 → 0 ≤ own i ∧ own i < 65536 := by decide +kernel
      exact this (j + 1) (by omega)
    have ht : spec_l01Times.f (own (j + 1)) (own (j + 1)) = some (nmI 4 (own (j + 1)) (own (j + 1))) := by
      unfold spec_l01Times.f
      rw [if_pos ⟨hown.1, hown.2, hown.1, hown.2⟩]
    refine Ev.step (fun k => ?_) h1
    simp only [spec_l01Half.l0]
    rw [if_pos (by omega), if_pos (by omega)]
    show (spec_l01Times.f (own (j + 1)) (own (j + 1))).bind _ = _
    rw [ht]
    rfl
theorem shalf_ev (x0 : Int) : Ev (fun k => spec_l01Half.f k x0) ((redS (x0, 0) (Bs 15)).2, (redS (x0, 0) (Bs 15)).1 == 0) := by
  unfold spec_l01Half.f
  have h3 := shalf_l3 (Bs 15) (by rw [Bs_len]; decide) (Bs 15).length 0 (x0, 0) (by omega) (by omega)
  rw [List.drop_zero] at h3
  exact shalf_l0 x0 _ h3 15 0 (by omega) (by omega)
open Go.Sort Go.Lib in
theorem srt_eq (l l' : List S175) (h1 : inIm l = true) (hp : l'.Perm l) (hs : l'.Pairwise fun x y => y.f0 < x.f0) : srtIm l = l' := by
  rw [inIm, Bool.and_eq_true, Bool.and_eq_true, decide_eq_true_eq, decide_eq_true_eq] at h1
  obtain ⟨⟨hn, hsz⟩, hall⟩ := h1
  have hall2 : (l'.all fun x => decide (0 ≤ x.f0 ∧ x.f0 < 65536)) = true := by
    rw [List.all_eq_true] at hall ⊢
    exact fun x hx => hall x (hp.mem_iff.1 hx)
  have hps := pdq_sorts (ltOf cfIm) swoIm (l.map toIm).toArray 0 (l.map toIm).toArray.size (Lib.bitLen (l.map toIm).toArray.size) true true (Nat.zero_le _) (Nat.le_refl _) (Or.inl rfl)
  have e1 : (l.map toIm).toArray.size = l.length := by simp
  rw [e1] at hps
  unfold srtIm
  generalize pdq (ltOf cfIm) (l.map toIm).toArray 0 l.length (Lib.bitLen l.length) true true = d at hps ⊢
  obtain ⟨⟨p1, p2, p3⟩, p4⟩ := hps
  have hd : d.size = l.length := by rw [p1]; simp
  have hperm : d.toList.Perm (l.map toIm) := by
    have e2 : (d.extract 0 l.length) = d := by rw [← hd]; simp
    have e3 : ((l.map toIm).toArray.extract 0 l.length) = (l.map toIm).toArray := by
      have : l.length = (l.map toIm).toArray.size := by simp
      rw [this, Array.extract_size]
    rw [e2, e3] at p3
    simpa using p3
  have hmap : (l'.map toIm).map ofIm = l' := map_im l' hall2
  have key : d.toList = l'.map toIm := by
    refine List.Perm.eq_of_pairwise (le := fun x y => y.1.val ≤ x.1.val) ?_ ?_ ?_ (hperm.trans ((hp.map toIm).symm))
    · intro a b ha hb h1 h2
      have ha' : a ∈ l'.map toIm := (hperm.trans ((hp.map toIm).symm)).mem_iff.1 ha
      obtain ⟨x, hx, rfl⟩ := List.mem_map.1 ha'
      obtain ⟨y, hy, rfl⟩ := List.mem_map.1 hb
      rw [List.all_eq_true] at hall2
      have bx := of_decide_eq_true (hall2 x hx)
      have by_ := of_decide_eq_true (hall2 y hy)
      have exy : x.f0 = y.f0 := by
        simp only [toIm] at h1 h2
        omega
      have : x = y := by
        obtain ⟨i, hi, rfl⟩ := List.mem_iff_getElem.1 hx
        obtain ⟨j, hj, rfl⟩ := List.mem_iff_getElem.1 hy
        rcases Nat.lt_trichotomy i j with h | h | h
        · have := List.pairwise_iff_getElem.1 hs i j hi hj h
          omega
        · subst h; rfl
        · have := List.pairwise_iff_getElem.1 hs j i hj hi h
          omega
      rw [this]
    · rw [List.pairwise_iff_getElem]
      intro i j hi hj hij
      have := p4 i j (Nat.zero_le _) hij (by simpa [hd] using hj)
      rw [getElem!_pos d j (by simpa using hj), getElem!_pos d i (by simpa using hi), ltIm, decide_eq_false_iff_not] at this
      simp only [Array.getElem_toList]
      omega
    · rw [List.pairwise_map]
      refine List.Pairwise.imp_of_mem ?_ hs
      intro a b ha hb h
      rw [List.all_eq_true] at hall2
      have ba := of_decide_eq_true (hall2 a ha)
      have bb := of_decide_eq_true (hall2 b hb)
      simp only [toIm]
      omega
  rw [key, hmap]
def okStep (k : Nat) : Bool :=
  let v := redS (rowOf (k + 1), own (k + 1)) (Bs k)
  let l := imgs (Bs k ++ [v])
  decide (v.1 ≠ 0) && inIm l && (Bs (k + 1)).isPerm (Bs k ++ [v]) && ((List.range (k + 1)).all fun i => (List.range i).all fun j => decide (((Bs (k + 1)).getD i (0, 0)).1 < ((Bs (k + 1)).getD j (0, 0)).1))
set_option maxRecDepth 100000 in
theorem okSteps : ∀ k, k < 15 → okStep k = true := by decide +kernel
theorem step_imgs (k : Nat) (hk : k < 15) : (redS (rowOf (k + 1), own (k + 1)) (Bs k)).1 ≠ 0 ∧ inIm (imgs (Bs k ++ [redS (rowOf (k + 1), own (k + 1)) (Bs k)])) = true ∧ srtIm (imgs (Bs k ++ [redS (rowOf (k + 1), own (k + 1)) (Bs k)])) = imgs (Bs (k + 1)) := by
  have h := okSteps k hk
  simp only [okStep, Bool.and_eq_true, decide_eq_true_eq] at h
  obtain ⟨⟨⟨h1, h2⟩, h3⟩, h4⟩ := h
  refine ⟨h1, h2, srt_eq _ _ h2 ((List.isPerm_iff.1 h3).map _) ?_⟩
  rw [imgs, List.pairwise_map, List.pairwise_iff_getElem]
  intro i j hi hj hij
  rw [List.all_eq_true] at h4
  have hl := Bs_len (k + 1)
  have h5 := h4 j (List.mem_range.2 (by omega))
  rw [List.all_eq_true] at h5
  have h6 := of_decide_eq_true (h5 i (List.mem_range.2 hij))
  simpa [List.getD_eq_getElem?_getD, hi, hj] using h6
theorem andNot16 (x : Int) (h1 : 0 ≤ x) (h2 : x < 65536) : Go.bits .andNot .u16 x 1 = ((x.toNat &&& 65534 : Nat) : Int) := by
  obtain ⟨a, rfl⟩ := Int.eq_ofNat_of_zero_le h1
  have ha : a < 2 ^ 16 := by omega
  have hx : a &&& 65534 < 2 ^ 16 := Nat.and_lt_two_pow a (by decide)
  have e0 : (~~~(BitVec.ofInt IntKind.u16.bits 1)).toNat = 65534 := by decide
  simp only [Go.bits, BitVec.toNat_and, e0, BitVec.ofInt_natCast, BitVec.toNat_ofNat, Int.toNat_natCast]
  rw [Nim.wrap_u16]
  have e1 : a % 2 ^ IntKind.u16.bits = a := Nat.mod_eq_of_lt ha
  rw [e1]
  omega
def ev16 (x : Int) : Prop := 0 ≤ x ∧ x < 65536 ∧ x.toNat &&& 65534 = x.toNat
instance (x : Int) : Decidable (ev16 x) := inferInstanceAs (Decidable (_ ∧ _))
theorem ev16_xor {x y : Int} (hx : ev16 x) (hy : ev16 y) : ev16 (xr x y) := by
  have e := Nim.xor16 x y hx.1 hx.2.1 hy.1 hy.2.1
  have hlt : x.toNat ^^^ y.toNat < 2 ^ 16 := Nat.xor_lt_two_pow (by have := hx.2.1; omega) (by have := hy.2.1; omega)
  unfold xr
  rw [e]
  refine ⟨by omega, by omega, ?_⟩
  rw [Int.toNat_natCast, Nat.and_xor_distrib_right, hx.2.2, hy.2.2]
theorem ev16_andNot {x : Int} (hx : ev16 x) : Go.bits .andNot .u16 x 1 = x := by
  rw [andNot16 x hx.1 hx.2.1, hx.2.2]
  have := hx.1
  omega
theorem red_ev : ∀ (B : List P2) (v : P2), ev16 v.2 → (∀ b ∈ B, ev16 b.2) → ev16 (redS v B).2
  | [], v, hv, _ => hv
  | b :: B, v, hv, hB => by
    rw [redS]
    split
    · exact red_ev B _ (ev16_xor hv (hB b (by simp))) fun b hb => hB b (by simp [hb])
    · exact red_ev B _ hv fun b hb => hB b (by simp [hb])
set_option maxRecDepth 100000 in
theorem Bs_ev : ∀ b ∈ Bs 15, ev16 b.2 := by decide +kernel
theorem half_even (x : Int) : Go.bits .andNot .u16 (redS (x, 0) (Bs 15)).2 1 = (redS (x, 0) (Bs 15)).2 := ev16_andNot (red_ev _ _ (show ev16 0 from by decide) Bs_ev)
theorem own_lt (k : Nat) (h : k < 16) : 0 ≤ own k ∧ own k < 65536 := by
  have : ∀ i, i < 16 → 0 ≤ own i ∧ own i < 65536 := by decide +kernel
  exact this k h
theorem times_evI (x y : Int) (h1 : 0 ≤ x) (h2 : x < 65536) (h3 : 0 ≤ y) (h4 : y < 65536) : Ev (fun k => impl_times.f k x y) (nmI 4 x y) := by
  have h := times_evF (fof 4 x.toNat) (fof 4 y.toNat)
  have hs := times_spec (fof 4 x.toNat) (fof 4 y.toNat)
  rw [tI_of x h1 h2, tI_of y h3 h4] at h hs
  unfold spec_l01Times.f at hs
  rw [if_pos ⟨h1, h2, h3, h4⟩] at hs
  rw [Option.some.inj hs]
  exact h
theorem xr_comm (x y : Int) : xr x y = xr y x := by simp only [xr, Go.bits, BitVec.xor_comm]
theorem ihalf_l1 (x0 x5 : Int) (B : List P2) (hB : B.length ≤ 20) (r : Int × Bool) (z : P2) (hz : z.1 ≠ 0) (h : Ev (fun k => (impl_image.f (imgs (B ++ [z]))).bind fun t => impl_halfRoot.l0 k x0 t (wrap64 (x5 + 1))) r) : ∀ (d i : Nat) (v : P2), B.length - i = d → i ≤ B.length → redS v (B.drop i) = z →
    Ev (fun k => impl_halfRoot.l1 k x0 (imgs B) x5 (imgs B) (B.length : Int) (i : Int) v.1 v.2) r := by
  intro d
  induction d with
  | zero =>
    intro i v hd hi hv
    have e : i = B.length := by omega
    subst e
    rw [List.drop_length, redS] at hv
    subst hv
    refine Ev.step (fun k => ?_) h
    simp only [impl_halfRoot.l1, imgs_len]
    rw [if_neg (by omega), if_neg hz, if_pos (by omega)]
    simp [imgs]
  | succ d ih =>
    intro i v hd hi hv
    have hlt : i < B.length := by omega
    rw [drop_P2 B i hlt, redS] at hv
    by_cases hc : xr v.1 (B.getD i (0, 0)).1 < v.1
    · rw [if_pos hc] at hv
      refine Ev.step (fun k => ?_) (ih (i + 1) _ (by omega) (by omega) hv)
      simp only [impl_halfRoot.l1, imgs_len, imgs_rd]
      rw [if_pos (by omega), if_pos (by omega), if_pos (by omega), if_pos (show Go.bits .xor .u16 _ _ < _ from hc), w64n i (by omega)]
      rfl
    · rw [if_neg hc] at hv
      refine Ev.step (fun k => ?_) (ih (i + 1) _ (by omega) (by omega) hv)
      simp only [impl_halfRoot.l1, imgs_len, imgs_rd]
      rw [if_pos (by omega), if_pos (by omega), if_pos (by omega), if_neg (show ¬ Go.bits .xor .u16 _ _ < _ from hc), w64n i (by omega)]
theorem ihalf_l2 (B : List P2) (hB : B.length ≤ 20) : ∀ (d i : Nat) (v : P2), B.length - i = d → i ≤ B.length →
    Ev (fun k => impl_halfRoot.l2 k v.1 v.2 (imgs B) (B.length : Int) (i : Int)) (Go.bits .andNot .u16 (redS v (B.drop i)).2 1, (redS v (B.drop i)).1 == 0) := by
  intro d
  induction d with
  | zero =>
    intro i v hd hi
    have e : i = B.length := by omega
    subst e
    rw [List.drop_length, redS]
    refine Ev.step (f := fun _ => some (Go.bits .andNot .u16 v.2 1, v.1 == 0)) (fun k => ?_) (Ev.now _)
    simp only [impl_halfRoot.l2, imgs_len]
    rw [if_neg (by omega)]
  | succ d ih =>
    intro i v hd hi
    have hlt : i < B.length := by omega
    rw [drop_P2 B i hlt, redS]
    by_cases hc : xr v.1 (B.getD i (0, 0)).1 < v.1
    · rw [if_pos hc]
      refine Ev.step (fun k => ?_) (ih (i + 1) _ (by omega) (by omega))
      simp only [impl_halfRoot.l2, imgs_len, imgs_rd]
      rw [if_pos (by omega), if_pos (by omega), if_pos (by omega), if_pos (show Go.bits .xor .u16 _ _ < _ from hc), w64n i (by omega)]
      rfl
    · rw [if_neg hc]
      refine Ev.step (fun k => ?_) (ih (i + 1) _ (by omega) (by omega))
      simp only [impl_halfRoot.l2, imgs_len, imgs_rd]
      rw [if_pos (by omega), if_pos (by omega), if_pos (by omega), if_neg (show ¬ Go.bits .xor .u16 _ _ < _ from hc), w64n i (by omega)]
theorem ihalf_l0 (x0 : Int) (r : Int × Bool) (hr : Ev (fun k => impl_halfRoot.l2 k x0 0 (imgs (Bs 15)) ((Bs 15).length : Int) 0) r) : ∀ (d j : Nat), 15 - j = d → j ≤ 15 →
    Ev (fun k => impl_halfRoot.l0 k x0 (imgs (Bs j)) ((j + 1 : Nat) : Int)) r := by
  intro d
  induction d with
  | zero =>
    intro j hd hj
    have e : j = 15 := by omega
    subst e
    refine Ev.step (fun k => ?_) hr
    simp only [impl_halfRoot.l0, imgs_len]
    rw [if_neg (by omega)]
  | succ d ih =>
    intro j hd hj
    have hw : wrap64 (((j + 1 : Nat) : Int) + 1) = ((j + 1 + 1 : Nat) : Int) := w64n (j + 1) (by omega)
    have hnext := ih (j + 1) (by omega) (by omega)
    have hl := Bs_len j
    obtain ⟨s1, s2, s3⟩ := step_imgs j (by omega)
    have h1 := ihalf_l1 x0 ((j + 1 : Nat) : Int) (Bs j) (by omega) r _ s1 (by
      rw [hw]
      refine Ev.congr (fun k => ?_) hnext
      unfold impl_image.f
      rw [if_pos s2, s3]
      rfl) (Bs j).length 0 (rowOf (j + 1), own (j + 1)) (by omega) (by omega) rfl
    have hown := own_lt (j + 1) (by omega)
    refine Ev.step (f := fun k => (impl_times.f k (own (j + 1)) (own (j + 1))).bind fun t => impl_halfRoot.l1 k x0 (imgs (Bs j)) ((j + 1 : Nat) : Int) (imgs (Bs j)) ((Bs j).length : Int) ((0 : Nat) : Int) (xr t (own (j + 1))) (own (j + 1))) (fun k => ?_) (Ev.bind (times_evI _ _ hown.1 hown.2 hown.1 hown.2) ?_)
    · simp only [impl_halfRoot.l0, imgs_len]
      rw [if_pos (by omega), if_pos (by omega)]
      rfl
    · rw [xr_comm]
      exact h1
theorem ihalf_ev (x0 : Int) : Ev (fun k => impl_halfRoot.f k x0) ((redS (x0, 0) (Bs 15)).2, (redS (x0, 0) (Bs 15)).1 == 0) := by
  unfold impl_halfRoot.f
  have h3 := ihalf_l2 (Bs 15) (by rw [Bs_len]; decide) (Bs 15).length 0 (x0, 0) (by omega) (by omega)
  rw [List.drop_zero, half_even] at h3
  exact ihalf_l0 x0 _ h3 15 0 (by omega) (by omega)
end Go.Proofs.Ytadfobooofkelaa.X

namespace Go.Proofs.Ytadfobooofkelaa.X
open Go.RowKit Go.Proofs.YtadfobooofkelaaW.PrintWords Go.Proofs.YtadfobooofkelaaW.PrintLast Go.Proofs.YtadfobooofkelaaW.PrintMore Go.Proofs.Ytadfobooofkelaa.Nim
set_option linter.unusedSimpArgs false
set_option linter.unusedVariables false
theorem iroot_l0 : ∀ (d j : Nat) (a : F 4), 15 - j = d → j ≤ 15 → Ev (fun k => impl_root.l0 k (tI a) (j : Int)) (tI (fpow a (2 ^ d))) := by
  intro d
  induction d with
  | zero =>
    intro j a hd hj
    have e : j = 15 := by omega
    subst e
    refine Ev.step (f := fun _ => some (tI a)) (fun k => ?_) ?_
    · simp only [impl_root.l0]; rw [if_neg (by omega)]
    · rw [show fpow a (2 ^ 0) = a from fpow_one a]; exact Ev.now _
  | succ d ih =>
    intro j a hd hj
    refine Ev.step (f := fun k => (impl_times.f k (tI a) (tI a)).bind fun t => impl_root.l0 k t ((j + 1 : Nat) : Int)) (fun k => ?_) (Ev.bind (times_evF a a) ?_)
    · simp only [impl_root.l0]
      rw [if_pos (by omega), w64n j (by omega)]
    · have := ih (j + 1) (a * a) (by omega) (by omega)
      rw [← fpow_two] at this
      rw [show 2 ^ (d + 1) = 2 * 2 ^ d by omega]
      exact this
theorem iroot_ev (a : F 4) : Ev (fun k => impl_root.f k (tI a)) (tI (fpow a 32768)) := iroot_l0 15 0 a (by omega) (by omega)
theorem spow_ev (a : F 4) : Ev (fun k => spec_l01Power.f k (tI a) 32768) (tI (fpow a 32768)) := by
  unfold spec_l01Power.f
  have := specPower_l0 32768 a 1 (by decide)
  rw [fone_mul, tI_one] at this
  exact this
theorem isort_ev (a b : Int) : Ev (fun k => impl_Nimber_145.f k [a, b]) (if b < a then [b, a] else [a, b]) := by
  unfold impl_Nimber_145.f impl_Nimber_171.f
  refine Ev.bind (g := fun _ => bits_Len.f (IntKind.u64.wrap ((([a, b] : List Int).length : Nat) : Int))) (a := 2) ⟨0, fun _ _ => show bits_Len.f (IntKind.u64.wrap 2) = some 2 from by decide +kernel⟩ ?_
  refine Ev.bind (a := if b < a then [b, a] else [a, b]) ?_ (Ev.now _)
  refine p_pos (by simp) ?_
  unfold impl_Nimber_179.f
  have e0 : wrap64 (0 + 1) = 1 := by decide +kernel
  have e2 : wrap64 (1 + 1) = 2 := by decide +kernel
  have e3 : wrap64 (1 - 1) = 0 := by decide +kernel
  have hl : ((([a, b] : List Int).length : Nat) : Int) = 2 := rfl
  rw [e0, hl]
  have hend : ∀ l : List Int, Ev (fun k => impl_Nimber_179.l0 k l 0 2 2) l := fun l =>
    Ev.step (f := fun _ => some l) (fun k => by simp only [impl_Nimber_179.l0]; rw [if_neg (by omega)]) (Ev.now _)
  refine Ev.step (f := fun k => impl_Nimber_179.l1 k [a, b] 0 2 1 1) (fun k => by simp only [impl_Nimber_179.l0]; rw [if_pos (by omega)]) ?_
  have hlt : impl_Nimber_185.f b a = some (decide (b < a)) := by
    simp [impl_Nimber_185.f, impl_Nimber_203.f]
  have r1 : rd [a, b] 1 = b := rfl
  have r0 : rd [a, b] 0 = a := rfl
  by_cases hc : b < a
  · rw [if_pos hc]
    refine Ev.step (f := fun k => impl_Nimber_179.l1 k [b, a] 0 2 1 0) (fun k => ?_) ?_
    · simp only [impl_Nimber_179.l1, e3, hl, r1, r0, hlt, Option.bind_some]
      rw [if_pos (by omega), if_pos (by omega), if_pos (by omega), if_pos (by omega), if_pos (by omega), if_pos (decide_eq_true hc)]
      rfl
    · refine Ev.step (f := fun k => impl_Nimber_179.l0 k [b, a] 0 2 2) (fun k => ?_) (hend _)
      simp only [impl_Nimber_179.l1, e2]
      rw [if_neg (by omega)]
  · rw [if_neg hc]
    refine Ev.step (f := fun k => impl_Nimber_179.l0 k [a, b] 0 2 2) (fun k => ?_) (hend _)
    simp only [impl_Nimber_179.l1, e3, e2, hl, r1, r0, hlt, Option.bind_some]
    rw [if_pos (by omega), if_pos (by omega), if_pos (by omega), if_pos (by omega), if_pos (by omega), if_neg (by simpa using hc)]
def roots (p q : F 4) : List Int :=
  if p = 0 then [tI (fpow q 32768)] else
    let r := redS (tI (q * (finvF p * finvF p)), 0) (Bs 15)
    if (r.1 == 0) = true then
      let x := tI (p * fof 4 r.2.toNat)
      if Go.bits .xor .u16 x (tI p) < x then [Go.bits .xor .u16 x (tI p), x] else [x, Go.bits .xor .u16 x (tI p)]
    else []
theorem half_tI (x : Int) : tI (fof 4 (redS (x, 0) (Bs 15)).2.toNat) = (redS (x, 0) (Bs 15)).2 := by
  have := red_ev (Bs 15) (x, 0) (show ev16 0 from by decide) Bs_ev
  exact tI_of _ this.1 this.2.1
theorem sroots_ev (p q : F 4) : Ev (fun k => spec_QuadraticRoots.f k (tI p) (tI q)) (roots p q) := by
  unfold spec_QuadraticRoots.f roots
  by_cases h : p = 0
  · rw [if_pos h]
    exact p_pos (tI_eq0.2 h) (Ev.bind (spow_ev q) (Ev.now _))
  · rw [if_neg h]
    refine p_neg (fun e => h (tI_eq0.1 e)) (Ev.bind (specInv_ev p) (ev_some (times_spec _ _) (ev_some (times_spec _ _) (Ev.bind (shalf_ev _) ?_))))
    have ht := half_tI (tI (q * (finvF p * finvF p)))
    generalize redS (tI (q * (finvF p * finvF p)), 0) (Bs 15) = r at ht ⊢
    by_cases hc : (r.1 == 0) = true
    · simp only [hc, if_true]
      rw [← ht]
      refine ev_some (times_spec _ _) ?_
      rw [ht]
      by_cases hlt : Go.bits .xor .u16 (tI (p * fof 4 r.2.toNat)) (tI p) < tI (p * fof 4 r.2.toNat)
      · simp only [if_pos hlt]; exact Ev.now _
      · simp only [if_neg hlt]; exact Ev.now _
    · simp only [if_neg hc]; exact Ev.now _
theorem finv_sq (p : F 4) : finvF (p * p) = finvF p * finvF p := fpow_mul p p 65534
theorem iroots_ev (p q : F 4) : Ev (fun k => impl_QuadraticRoots.f k (tI p) (tI q)) (roots p q) := by
  unfold impl_QuadraticRoots.f roots
  by_cases h : p = 0
  · rw [if_pos h]
    exact p_pos (tI_eq0.2 h) (Ev.bind (iroot_ev q) (Ev.now _))
  · rw [if_neg h]
    refine p_neg (fun e => h (tI_eq0.1 e)) (Ev.bind (times_evF p p) (Ev.bind (implInv_ev (p * p)) (Ev.bind (times_evF _ _) (Ev.bind (ihalf_ev _) ?_))))
    rw [finv_sq]
    have ht := half_tI (tI (q * (finvF p * finvF p)))
    generalize redS (tI (q * (finvF p * finvF p)), 0) (Bs 15) = r at ht ⊢
    by_cases hc : (r.1 == 0) = true
    · simp only [hc, if_true]
      have h1 := times_evF p (fof 4 r.2.toNat)
      have h2 := times_evF p (fof 4 r.2.toNat + 1)
      rw [← tI_xor, ht, tI_one] at h2
      rw [ht] at h1
      have e : tI (p * (fof 4 r.2.toNat + 1)) = Go.bits .xor .u16 (tI (p * fof 4 r.2.toNat)) (tI p) := by
        rw [fmul_add, fmul_one, tI_xor]
      rw [e] at h2
      exact Ev.bind h1 (Ev.bind h2 (Ev.bind (isort_ev _ _) (Ev.now _)))
    · simp only [if_neg hc]; exact Ev.now _
theorem roots_shape (p q : F 4) : roots p q = [] ∨ (∃ x, roots p q = [x]) ∨ ∃ x y, roots p q = [x, y] := by
  unfold roots
  split
  · exact .inr (.inl ⟨_, rfl⟩)
  · dsimp only
    split
    · split
      · exact .inr (.inr ⟨_, _, rfl⟩)
      · exact .inr (.inr ⟨_, _, rfl⟩)
    · exact .inl rfl
end Go.Proofs.Ytadfobooofkelaa.X

namespace Go.Proofs.Ytadfobooofkelaa.X
open Go.RowKit Go.Proofs.YtadfobooofkelaaW.PrintWords Go.Proofs.YtadfobooofkelaaW.PrintLast Go.Proofs.YtadfobooofkelaaW.PrintMore Go.Proofs.Ytadfobooofkelaa.Nim
set_option linter.unusedSimpArgs false
set_option linter.unusedVariables false
def trL : Nat → F 4 → F 4
  | 0, _ => 0
  | n + 1, a => a + trL n (a * a)
def trF (a : F 4) : F 4 := trL 16 a
theorem trL_add : ∀ (n : Nat) (a b : F 4), trL n (a + b) = trL n a + trL n b
  | 0, _, _ => (fadd_self 0).symm ▸ rfl
  | n + 1, a, b => by
    rw [trL, trL, trL, fsq_add, trL_add n]
    simp only [fadd_assoc, fadd_comm, fadd_left_comm]
theorem trL_sq : ∀ (n : Nat) (a : F 4), trL n (a * a) = trL n a * trL n a
  | 0, _ => (fzero_mul 0).symm
  | n + 1, a => by rw [trL, trL, trL_sq n (a * a), fsq_add]
theorem trL_turn : ∀ (n : Nat) (a : F 4), trL n a + fsqn n a = a + trL n (a * a)
  | 0, a => by rw [trL, trL, fsqn, fadd_comm]
  | n + 1, a => by
    rw [trL, fsqn, fadd_assoc, trL_turn n (a * a), trL]
theorem fsqn16 (a : F 4) : fsqn 16 a = a := fsqn_self a
theorem trF_sq (a : F 4) : trF (a * a) = trF a := by
  have h := trL_turn 16 a
  rw [fsqn16, fadd_comm] at h
  have h2 : a + (a + trL 16 a) = a + (a + trL 16 (a * a)) := by rw [h]
  rw [fadd_cancel, fadd_cancel] at h2
  exact h2.symm
theorem trF_add (a b : F 4) : trF (a + b) = trF a + trF b := trL_add 16 a b
theorem trF_bit (a : F 4) : trF a = 0 ∨ trF a = 1 := by
  have h : trF a * trF a = trF a := by
    have := trL_sq 16 a
    rw [show trL 16 (a * a) = trF a from trF_sq a] at this
    exact this.symm
  by_cases h0 : trF a = 0
  · exact .inl h0
  · right
    have : trF a * trF a = trF a * 1 := by rw [h, fmul_one]
    exact fmul_cancel h0 this
theorem itr_l0 : ∀ (d j : Nat) (x s : F 4), 16 - j = d → j ≤ 16 → Ev (fun k => impl_TraceOf.l0 k (tI x) (tI s) (j : Int)) (tI (s + trL d x)) := by
  intro d
  induction d with
  | zero =>
    intro j x s hd hj
    refine Ev.step (f := fun _ => some (tI s)) (fun k => ?_) ?_
    · simp only [impl_TraceOf.l0]; rw [if_neg (by omega)]
    · rw [trL, fadd_zero]; exact Ev.now _
  | succ d ih =>
    intro j x s hd hj
    have := ih (j + 1) (x * x) (s + x) (by omega) (by omega)
    rw [fadd_assoc, ← tI_xor] at this
    refine Ev.step (f := fun k => (impl_times.f k (tI x) (tI x)).bind fun t => impl_TraceOf.l0 k t (Go.bits .xor .u16 (tI s) (tI x)) ((j + 1 : Nat) : Int)) (fun k => ?_) (Ev.bind (times_evF x x) this)
    simp only [impl_TraceOf.l0]
    rw [if_pos (by omega), w64n j (by omega)]
theorem itr_ev (a : F 4) : Ev (fun k => impl_TraceOf.f k (tI a)) (tI (trF a)) := by
  have := itr_l0 16 0 a 0 (by omega) (by omega)
  rw [fzero_add, tI_zero] at this
  exact this
theorem str_l0 : ∀ (d j : Nat) (x s : F 4), 16 - j = d → j ≤ 16 → Ev (fun k => spec_l01Trace.l0 k (tI x) (tI s) (j : Int)) (tI (s + trL d x)) := by
  intro d
  induction d with
  | zero =>
    intro j x s hd hj
    refine Ev.step (f := fun _ => some (tI s)) (fun k => ?_) ?_
    · simp only [spec_l01Trace.l0]; rw [if_neg (by omega)]
    · rw [trL, fadd_zero]; exact Ev.now _
  | succ d ih =>
    intro j x s hd hj
    have := ih (j + 1) (x * x) (s + x) (by omega) (by omega)
    rw [fadd_assoc, ← tI_xor] at this
    refine Ev.step (fun k => ?_) this
    simp only [spec_l01Trace.l0, times_spec, Option.bind_some]
    rw [if_pos (by omega), w64n j (by omega)]
theorem str_ev (a : F 4) : Ev (fun k => spec_TraceOf.f k (tI a)) (tI (trF a)) := by
  have := str_l0 16 0 a 0 (by omega) (by omega)
  rw [fzero_add, tI_zero] at this
  exact Ev.bind this (Ev.now _)
theorem least {P : Nat → Prop} : ∀ n, P n → ∃ d, d ≤ n ∧ P d ∧ ∀ j, j < d → ¬ P j := by
  intro n
  induction n using Nat.strongRecOn with
  | ind n ih =>
    intro h
    by_cases hc : ∃ j, j < n ∧ P j
    · obtain ⟨j, hj, hp⟩ := hc
      obtain ⟨d, h1, h2, h3⟩ := ih j hj hp
      exact ⟨d, by omega, h2, h3⟩
    · exact ⟨n, Nat.le_refl _, h, fun j hj hp => hc ⟨j, hj, hp⟩⟩
theorem fsqn_mulself {a : F 4} {d : Nat} (h : fsqn d a = a) : ∀ q, fsqn (d * q) a = a
  | 0 => rfl
  | q + 1 => by rw [Nat.mul_succ, Nat.add_comm, fsqn_fsqn, fsqn_mulself h q, h]
theorem period (a : F 4) : ∃ d, 1 ≤ d ∧ d ≤ 16 ∧ fsqn d a = a ∧ (∀ j, 1 ≤ j → j < d → fsqn j a ≠ a) ∧ 16 % d = 0 := by
  obtain ⟨d, h1, ⟨h2, h2'⟩, h3⟩ := least (P := fun d => 1 ≤ d ∧ fsqn d a = a) 16 ⟨by omega, fsqn16 a⟩
  have hmin : ∀ j, 1 ≤ j → j < d → fsqn j a ≠ a := fun j a1 a2 e => h3 j a2 ⟨a1, e⟩
  refine ⟨d, h2, h1, h2', hmin, ?_⟩
  have e : fsqn (16 % d) a = a := by
    have e1 : 16 % d + d * (16 / d) = 16 := Nat.mod_add_div 16 d
    have e2 : fsqn (16 % d + d * (16 / d)) a = fsqn (16 % d) a := by rw [fsqn_fsqn, fsqn_mulself h2']
    rw [← e2, e1]
    exact fsqn16 a
  by_cases h0 : 16 % d = 0
  · exact h0
  · exact absurd e (hmin _ (by omega) (Nat.mod_lt _ (by omega)))
def conj (a : F 4) (d : Nat) : List Int := (List.range d).map fun i => tI (fsqn i a)
theorem conj_succ (a : F 4) (d : Nat) : conj a (d + 1) = conj a d ++ [tI (fsqn d a)] := by simp [conj, List.range_succ]
theorem fsqn_succ (a : F 4) (d : Nat) : fsqn (d + 1) a = fsqn d a * fsqn d a := by rw [Nat.add_comm, fsqn_fsqn]; rfl
theorem conj_len (a : F 4) (d : Nat) : (conj a d).length = d := by simp [conj]
theorem iconj_l0 (a : F 4) (D : Nat) (hD : D ≤ 16) (h1 : fsqn D a = a) (h2 : ∀ j, 1 ≤ j → j < D → fsqn j a ≠ a) : ∀ (d i : Nat), D - i = d → 1 ≤ i → i ≤ D → Ev (fun k => impl_conjugates.l0 k (tI a) (conj a i) (tI (fsqn i a))) (conj a D) := by
  intro d
  induction d with
  | zero =>
    intro i hd hi hiD
    have e : i = D := by omega
    subst e
    refine Ev.step (f := fun _ => some (conj a i)) (fun k => ?_) (Ev.now _)
    simp only [impl_conjugates.l0]
    rw [if_pos (by rw [h1])]
  | succ d ih =>
    intro i hd hi hiD
    have := ih (i + 1) (by omega) (by omega) (by omega)
    rw [conj_succ, fsqn_succ] at this
    refine Ev.step (f := fun k => (impl_times.f k (tI (fsqn i a)) (tI (fsqn i a))).bind fun t => impl_conjugates.l0 k (tI a) (conj a i ++ [tI (fsqn i a)]) t) (fun k => ?_) (Ev.bind (times_evF _ _) this)
    simp only [impl_conjugates.l0]
    rw [if_neg (fun e => h2 i hi (by omega) (tI_inj e)), if_pos (by rw [conj_len]; omega)]
theorem sconj_l0 (a : F 4) (D : Nat) (hD : D ≤ 16) (h1 : fsqn D a = a) (h2 : ∀ j, 1 ≤ j → j < D → fsqn j a ≠ a) : ∀ (d i : Nat), D - i = d → 1 ≤ i → i ≤ D → Ev (fun k => spec_ConjugatesOf.l0 k (tI a) (conj a i) (tI (fsqn i a))) (conj a D) := by
  intro d
  induction d with
  | zero =>
    intro i hd hi hiD
    have e : i = D := by omega
    subst e
    refine Ev.step (f := fun _ => some (conj a i)) (fun k => ?_) (Ev.now _)
    simp only [spec_ConjugatesOf.l0]
    rw [if_pos (by rw [h1])]
  | succ d ih =>
    intro i hd hi hiD
    have := ih (i + 1) (by omega) (by omega) (by omega)
    rw [conj_succ, fsqn_succ] at this
    refine Ev.step (fun k => ?_) this
    simp only [spec_ConjugatesOf.l0, times_spec, Option.bind_some]
    rw [if_neg (fun e => h2 i hi (by omega) (tI_inj e)), if_pos (by rw [conj_len]; omega)]
theorem conj_ev (a : F 4) : ∃ D, 1 ≤ D ∧ D ≤ 16 ∧ 16 % D = 0 ∧ fsqn D a = a ∧ Ev (fun k => impl_ConjugatesOf.f k (tI a)) (conj a D) ∧ Ev (fun k => spec_ConjugatesOf.f k (tI a)) (conj a D) := by
  obtain ⟨D, d1, d2, d3, d4, d5⟩ := period a
  have e1 : conj a 1 = [tI a] := rfl
  have e2 : fsqn 1 a = a * a := rfl
  have i := iconj_l0 a D d2 d3 d4 (D - 1) 1 rfl (by omega) d1
  have s := sconj_l0 a D d2 d3 d4 (D - 1) 1 rfl (by omega) d1
  rw [e1, e2] at i s
  refine ⟨D, d1, d2, d5, d3, ?_, ?_⟩
  · unfold impl_ConjugatesOf.f impl_conjugates.f
    exact Ev.bind (Ev.bind (times_evF a a) i) (Ev.now _)
  · unfold spec_ConjugatesOf.f
    exact ev_some (times_spec a a) s
theorem lt_of_bit {x y : Nat} (e : Nat) (hx : x.testBit e = false) (hy : y.testBit e = true) (h : ∀ j, e < j → x.testBit j = y.testBit j) : x < y := by
  have h1 : x / 2 ^ e / 2 = y / 2 ^ e / 2 := by
    apply Nat.eq_of_testBit_eq
    intro i
    have e1 : ∀ z : Nat, z / 2 ^ e / 2 = z / 2 ^ (e + 1) := fun z => by rw [Nat.div_div_eq_div_mul, Nat.pow_succ]
    rw [e1, e1, Nat.testBit_div_two_pow, Nat.testBit_div_two_pow]
    exact h _ (by omega)
  rw [Nat.testBit_eq_decide_div_mod_eq, decide_eq_false_iff_not] at hx
  rw [Nat.testBit_eq_decide_div_mod_eq, decide_eq_true_eq] at hy
  have h2 : x / 2 ^ e < y / 2 ^ e := by omega
  by_cases hc : x < y
  · exact hc
  · have := Nat.div_le_div_right (c := 2 ^ e) (Nat.le_of_not_lt hc)
    omega
theorem clear_one {x b e : Nat} (h1 : 2 ^ e ≤ b) (h2 : b < 2 ^ (e + 1)) : let y := if x ^^^ b < x then x ^^^ b else x; y.testBit e = false ∧ ∀ j, e < j → y.testBit j = x.testBit j := by
  have hb : b.testBit e = true := by
    rw [Nat.testBit_eq_decide_div_mod_eq]
    have : b / 2 ^ e = 1 := by
      have : b / 2 ^ e < 2 := (Nat.div_lt_iff_lt_mul (Nat.two_pow_pos e)).2 (by rw [Nat.pow_succ] at h2; omega)
      have h3 : 1 ≤ b / 2 ^ e := (Nat.le_div_iff_mul_le (Nat.two_pow_pos e)).2 (by omega)
      omega
    rw [this]; rfl
  have hb2 : ∀ j, e < j → b.testBit j = false := fun j hj => Nat.testBit_lt_two_pow (Nat.lt_of_lt_of_le h2 (Nat.pow_le_pow_right (by decide) hj))
  have hx : (x ^^^ b).testBit e = !x.testBit e := by rw [Nat.testBit_xor, hb]; simp
  have hy : ∀ j, e < j → (x ^^^ b).testBit j = x.testBit j := fun j hj => by rw [Nat.testBit_xor, hb2 j hj]; simp
  dsimp only
  cases hc : x.testBit e with
  | true =>
    have hlt : x ^^^ b < x := lt_of_bit e (by rw [hx, hc]; rfl) hc hy
    rw [if_pos hlt]
    exact ⟨by rw [hx, hc]; rfl, hy⟩
  | false =>
    have hlt : x < x ^^^ b := lt_of_bit e hc (by rw [hx, hc]; rfl) (fun j hj => (hy j hj).symm)
    rw [if_neg (by omega)]
    exact ⟨hc, fun _ _ => rfl⟩
def red1 : Nat → List Nat → Nat
  | x, [] => x
  | x, b :: bs => red1 (if x ^^^ b < x then x ^^^ b else x) bs
def falls : Nat → List Nat → Bool
  | _, [] => true
  | e, b :: bs => decide (b ≠ 0) && decide (Nat.log2 b < e) && falls (Nat.log2 b) bs
theorem red1_high : ∀ (bs : List Nat) (e x : Nat), falls e bs = true → ∀ j, e ≤ j → (red1 x bs).testBit j = x.testBit j
  | [], _, _, _, _, _ => rfl
  | b :: bs, e, x, h, j, hj => by
    rw [falls, Bool.and_eq_true, Bool.and_eq_true, decide_eq_true_eq, decide_eq_true_eq] at h
    obtain ⟨⟨h0, h1⟩, h2⟩ := h
    have hc := clear_one (x := x) (Nat.log2_self_le h0) (Nat.lt_log2_self)
    rw [red1, red1_high bs _ _ h2 j (by omega)]
    exact hc.2 j (by omega)
theorem red1_lead : ∀ (bs : List Nat) (e x : Nat), falls e bs = true → ∀ b ∈ bs, (red1 x bs).testBit (Nat.log2 b) = false
  | [], _, _, _, _, hb => by cases hb
  | b :: bs, e, x, h, c, hcm => by
    rw [falls, Bool.and_eq_true, Bool.and_eq_true, decide_eq_true_eq, decide_eq_true_eq] at h
    obtain ⟨⟨h0, h1⟩, h2⟩ := h
    have hc := clear_one (x := x) (Nat.log2_self_le h0) (Nat.lt_log2_self)
    rw [red1]
    rcases List.mem_cons.1 hcm with rfl | hm
    · rw [red1_high bs _ _ h2 _ (Nat.le_refl _)]
      exact hc.1
    · exact red1_lead bs _ _ h2 c hm
def imOf (p : P2) : Prop := ∃ x : F 4, p.2 = tI x ∧ p.1 = tI (x + x * x)
def inR (x : Int) : Prop := 0 ≤ x ∧ x < 65536
instance (x : Int) : Decidable (inR x) := inferInstanceAs (Decidable (_ ∧ _))
def nB : List Nat := (Bs 15).map (·.1.toNat)
theorem xr_nat {x y : Int} (hx : inR x) (hy : inR y) : inR (xr x y) ∧ (xr x y).toNat = x.toNat ^^^ y.toNat := by
  have e := Nim.xor16 x y hx.1 hx.2 hy.1 hy.2
  have hlt : x.toNat ^^^ y.toNat < 2 ^ 16 := Nat.xor_lt_two_pow (by have := hx.2; omega) (by have := hy.2; omega)
  unfold xr inR
  rw [e]
  exact ⟨by omega, by omega⟩
theorem redS_nat : ∀ (B : List P2) (v : P2), inR v.1 → (∀ b ∈ B, inR b.1) → inR (redS v B).1 ∧ (redS v B).1.toNat = red1 v.1.toNat (B.map (·.1.toNat))
  | [], v, hv, _ => ⟨hv, rfl⟩
  | b :: B, v, hv, hB => by
    have hb := hB b (List.mem_cons_self ..)
    have hB' : ∀ b ∈ B, inR b.1 := fun c hc => hB c (List.mem_cons_of_mem _ hc)
    obtain ⟨x1, x2⟩ := xr_nat hv hb
    rw [redS, List.map_cons, red1, ← x2]
    have h0 := hv.1
    have h1 := x1.1
    by_cases hc : xr v.1 b.1 < v.1
    · rw [if_pos hc, if_pos (by omega)]
      exact redS_nat B (xr v.1 b.1, xr v.2 b.2) x1 hB'
    · rw [if_neg hc, if_neg (by omega)]
      exact redS_nat B v hv hB'
theorem redS_im (a : F 4) : ∀ (B : List P2) (v : P2), (∃ r x : F 4, v.1 = tI r ∧ v.2 = tI x ∧ r + (x + x * x) = a) → (∀ b ∈ B, imOf b) → ∃ r x : F 4, (redS v B).1 = tI r ∧ (redS v B).2 = tI x ∧ r + (x + x * x) = a
  | [], v, hv, _ => hv
  | b :: B, v, ⟨r, x, h1, h2, h3⟩, hB => by
    obtain ⟨y, b1, b2⟩ := hB b (List.mem_cons_self ..)
    have hB' : ∀ b ∈ B, imOf b := fun c hc => hB c (List.mem_cons_of_mem _ hc)
    rw [redS]
    split
    · refine redS_im a B _ ⟨r + (y + y * y), x + y, ?_, ?_, ?_⟩ hB'
      · show xr v.1 b.1 = _
        rw [h1, b2]; exact tI_xor _ _
      · show xr v.2 b.2 = _
        rw [h2, b1]; exact tI_xor _ _
      · rw [← h3, fsq_add]
        have e : r + (y + y * y) + (x + y + (x * x + y * y)) = r + (x + x * x) + ((y + y) + (y * y + y * y)) := by
          simp only [fadd_assoc, fadd_comm, fadd_left_comm]
        rw [e, fadd_self, fadd_self, fadd_zero, fadd_zero]
    · exact redS_im a B v ⟨r, x, h1, h2, h3⟩ hB'
def okBasis : Bool := (Bs 15).all fun b => decide (inR b.1) && decide (inR b.2) && (b.1 == xr b.2 (nmI 4 b.2 b.2))
set_option maxRecDepth 100000 in
theorem okBasis_true : okBasis = true := by decide +kernel
theorem basis_of {b : P2} (hb : b ∈ Bs 15) : inR b.1 ∧ imOf b := by
  have h := okBasis_true
  unfold okBasis at h
  rw [List.all_eq_true] at h
  have h1 := h b hb
  rw [Bool.and_eq_true, Bool.and_eq_true, decide_eq_true_eq, decide_eq_true_eq, beq_iff_eq] at h1
  obtain ⟨⟨h1, h2⟩, h3⟩ := h1
  refine ⟨h1, fof 4 b.2.toNat, (tI_of _ h2.1 h2.2).symm, ?_⟩
  have e := tI_of _ h2.1 h2.2
  have hs := times_spec (fof 4 b.2.toNat) (fof 4 b.2.toNat)
  rw [e] at hs
  unfold spec_l01Times.f at hs
  rw [if_pos ⟨h2.1, h2.2, h2.1, h2.2⟩] at hs
  rw [h3, Option.some.inj hs, ← tI_xor, e]
  rfl
set_option maxRecDepth 100000 in
theorem falls_B : falls 16 nB = true := by decide +kernel
def oddBit : Nat := ((List.range 16).filter fun j => !(nB.map Nat.log2).contains j).getD 0 0
set_option maxRecDepth 100000 in
theorem leads_B : ∀ j, j < 16 → j ≠ oddBit → j ∈ nB.map Nat.log2 := by decide +kernel
set_option maxRecDepth 100000 in
theorem tr_odd : oddBit < 16 ∧ trF (fof 4 (2 ^ oddBit)) = 1 := by
  have h : fval (trF (fof 4 (2 ^ oddBit))) = 1 := by decide +kernel
  exact ⟨by decide +kernel, fval_inj (h.trans (fval_one 4).symm)⟩
theorem red1_B (x : Nat) (hx : x < 65536) : red1 x nB = 0 ∨ red1 x nB = 2 ^ oddBit := by
  have hbit : ∀ j, j ≠ oddBit → (red1 x nB).testBit j = false := by
    intro j hj
    by_cases h16 : j < 16
    · obtain ⟨b, hb, rfl⟩ := List.mem_map.1 (leads_B j h16 hj)
      exact red1_lead nB 16 x falls_B b hb
    · rw [red1_high nB 16 x falls_B j (by omega)]
      exact Nat.testBit_lt_two_pow (Nat.lt_of_lt_of_le hx (Nat.pow_le_pow_right (n := 2) (by decide) (show 16 ≤ j by omega)))
  cases hc : (red1 x nB).testBit oddBit with
  | false =>
    left
    apply Nat.eq_of_testBit_eq
    intro j
    rw [Nat.zero_testBit]
    by_cases hj : j = oddBit
    · rw [hj, hc]
    · exact hbit j hj
  | true =>
    right
    apply Nat.eq_of_testBit_eq
    intro j
    rw [Nat.testBit_two_pow]
    by_cases hj : j = oddBit
    · rw [hj, hc]; simp
    · rw [hbit j hj]; simp [Ne.symm hj]
theorem half_tells (a : F 4) : ∃ x : F 4, (redS (tI a, 0) (Bs 15)).2 = tI x ∧ (((redS (tI a, 0) (Bs 15)).1 == 0) = true ↔ trF a = 0) ∧ ((redS (tI a, 0) (Bs 15)).1 = 0 → x + x * x = a) := by
  have hr : inR (tI a) := tI_lt a
  obtain ⟨n1, n2⟩ := redS_nat (Bs 15) (tI a, 0) hr (fun b hb => (basis_of hb).1)
  obtain ⟨r, x, h1, h2, h3⟩ := redS_im a (Bs 15) (tI a, 0) ⟨a, 0, rfl, tI_zero.symm, by rw [fzero_mul, fadd_zero, fadd_zero]⟩ (fun b hb => (basis_of hb).2)
  have htr : trF r = trF a := by
    rw [← h3, trF_add, trF_add, trF_sq, fadd_self, fadd_zero]
  refine ⟨x, h2, ?_, fun h0 => ?_⟩
  · rw [beq_iff_eq]
    rcases red1_B (tI a).toNat (by have := hr.2; have := hr.1; simp only at *; omega) with h | h
    · have e : (redS (tI a, 0) (Bs 15)).1 = 0 := by
        have := n1.1
        have n2' : (redS (tI a, 0) (Bs 15)).1.toNat = 0 := n2.trans h
        omega
      rw [e] at h1
      have r0 : r = 0 := tI_eq0.1 h1.symm
      refine ⟨fun _ => ?_, fun _ => e⟩
      rw [← htr, r0]
      have := trF_add 0 0
      rw [fadd_self, fadd_self] at this
      exact this
    · have n2' : (redS (tI a, 0) (Bs 15)).1.toNat = 2 ^ oddBit := n2.trans h
      have e : r = fof 4 (2 ^ oddBit) := by
        rw [h1] at n2'
        have : fval r = 2 ^ oddBit := by unfold tI at n2'; rwa [Int.toNat_natCast] at n2'
        rw [← this, fof_val]
      have t1 : trF a = 1 := by rw [← htr, e]; exact tr_odd.2
      have hp : 0 < 2 ^ oddBit := Nat.two_pow_pos _
      refine ⟨fun h0 => ?_, fun h0 => ?_⟩
      · rw [h0] at n2'
        simp only [Int.toNat_zero] at n2'
        omega
      · rw [t1] at h0
        exact absurd h0 (fone_ne 4)
  · rw [h0] at h1
    have r0 : r = 0 := tI_eq0.1 h1.symm
    rw [r0, fzero_add] at h3
    exact h3
end Go.Proofs.Ytadfobooofkelaa.X

namespace Go.Proofs.Ytadfobooofkelaa.X
open Go.RowKit Go.Proofs.YtadfobooofkelaaW.PrintWords Go.Proofs.YtadfobooofkelaaW.PrintLast Go.Proofs.YtadfobooofkelaaW.PrintMore Go.Proofs.Ytadfobooofkelaa.Nim
set_option linter.unusedSimpArgs false
set_option linter.unusedVariables false
def isRoot (p q x : F 4) : Prop := x * x + p * x + q = 0
theorem root_sq (q : F 4) : fpow q 32768 * fpow q 32768 = q := by
  rw [← fpow_add]
  exact fpow_self q
theorem inv2 {p : F 4} (h : p ≠ 0) : p * p * (finvF p * finvF p) = 1 := by
  have e : p * p * (finvF p * finvF p) = (p * finvF p) * (p * finvF p) := by simp only [fmul_assoc, fmul_comm, fmul_left_comm]
  rw [e, finvF_mul h, fone_mul]
theorem half_root {p q z : F 4} (h : p ≠ 0) (hz : z + z * z = q * (finvF p * finvF p)) : isRoot p q (p * z) := by
  unfold isRoot
  have e : p * z * (p * z) + p * (p * z) = p * p * (z + z * z) := by
    rw [fmul_add, fadd_comm]
    simp only [fmul_assoc, fmul_comm, fmul_left_comm]
  have e2 : p * p * (q * (finvF p * finvF p)) = q * (p * p * (finvF p * finvF p)) := by simp only [fmul_assoc, fmul_comm, fmul_left_comm]
  rw [e, hz, e2, inv2 h, fmul_one, fadd_self]
theorem other_root {p q x : F 4} (h : isRoot p q x) : isRoot p q (x + p) := by
  unfold isRoot at h ⊢
  rw [fsq_add, fmul_add]
  have e : x * x + p * p + (p * x + p * p) + q = (x * x + p * x + q) + (p * p + p * p) := by simp only [fadd_assoc, fadd_comm, fadd_left_comm]
  rw [e, fadd_self, fadd_zero]
  exact h
theorem tI_lt_or {x y : F 4} (h : x ≠ y) : tI x < tI y ∨ tI y < tI x := by
  have : tI x ≠ tI y := fun e => h (tI_inj e)
  omega
theorem roots_tell (p q : F 4) : (p = 0 ∧ ∃ x, roots p q = [tI x] ∧ isRoot p q x ∧ x * x = q) ∨ (p ≠ 0 ∧ roots p q = [] ∧ trF (q * (finvF p * finvF p)) ≠ 0) ∨ (p ≠ 0 ∧ ∃ x y, roots p q = [tI x, tI y] ∧ tI x < tI y ∧ y = x + p ∧ isRoot p q x ∧ isRoot p q y) := by
  by_cases hp : p = 0
  · left
    refine ⟨hp, fpow q 32768, by unfold roots; rw [if_pos hp], ?_, root_sq q⟩
    unfold isRoot
    rw [hp, fzero_mul, fadd_zero, root_sq, fadd_self]
  · right
    obtain ⟨z, h1, h2, h3⟩ := half_tells (q * (finvF p * finvF p))
    unfold roots
    rw [if_neg hp]
    dsimp only
    by_cases hc : ((redS (tI (q * (finvF p * finvF p)), 0) (Bs 15)).1 == 0) = true
    · right
      rw [if_pos hc]
      have hz := h3 (beq_iff_eq.1 hc)
      have ez : fof 4 (redS (tI (q * (finvF p * finvF p)), 0) (Bs 15)).2.toNat = z := by
        rw [h1]; unfold tI; rw [Int.toNat_natCast, fof_val]
      rw [ez, tI_xor]
      have r1 := half_root hp hz
      have r2 := other_root r1
      have hne : p * z + p ≠ p * z := fun e => hp (by
        have := congrArg (fun t => p * z + t) e
        simp only [fadd_cancel, fadd_self] at this
        exact this)
      by_cases hlt : tI (p * z + p) < tI (p * z)
      · rw [if_pos hlt]
        refine ⟨hp, p * z + p, p * z, rfl, hlt, ?_, r2, r1⟩
        rw [fadd_assoc, fadd_self, fadd_zero]
      · rw [if_neg hlt]
        refine ⟨hp, p * z, p * z + p, rfl, ?_, rfl, r1, r2⟩
        rcases tI_lt_or hne with h | h
        · exact absurd h hlt
        · exact h
    · left
      rw [if_neg hc]
      exact ⟨hp, rfl, fun h => hc (h2.2 h)⟩
theorem two_roots {a b : F 4} (h : a ≠ b) : roots (a + b) (a * b) = [mn (tI a) (tI b), mx (tI a) (tI b)] := by
  have hp : a + b ≠ 0 := fun e => h (feq_of_add e)
  have hfac : ∀ x, isRoot (a + b) (a * b) x → x = a ∨ x = b := by
    intro x hx
    unfold isRoot at hx
    have e : x * x + (a + b) * x + a * b = (x + a) * (x + b) := by
      rw [fadd_mul, fadd_mul, fmul_add, fmul_add]
      simp only [fadd_assoc, fadd_comm, fadd_left_comm, fmul_comm]
    rw [e] at hx
    by_cases ha : x + a = 0
    · exact .inl (feq_of_add ha)
    · exact .inr (feq_of_add (fmul_eq_zero ha hx))
  rcases roots_tell (a + b) (a * b) with ⟨h0, _⟩ | ⟨_, _, h0⟩ | ⟨_, x, y, hr, hlt, hy, rx, ry⟩
  · exact absurd h0 hp
  · exfalso
    apply h0
    have e : a * b * (finvF (a + b) * finvF (a + b)) = a * finvF (a + b) + (a * finvF (a + b)) * (a * finvF (a + b)) := by
      have e1 : a * finvF (a + b) = a * (a + b) * (finvF (a + b) * finvF (a + b)) := by
        have : a * (a + b) * (finvF (a + b) * finvF (a + b)) = a * (((a + b) * finvF (a + b)) * finvF (a + b)) := by simp only [fmul_assoc, fmul_comm, fmul_left_comm]
        rw [this, finvF_mul hp, fone_mul]
      have e2 : (a * finvF (a + b)) * (a * finvF (a + b)) = a * a * (finvF (a + b) * finvF (a + b)) := by simp only [fmul_assoc, fmul_comm, fmul_left_comm]
      rw [e2]
      conv => rhs; rw [e1]
      rw [← fadd_mul, fmul_add, fadd_comm (a * a), fadd_assoc, fadd_self, fadd_zero]
    rw [e, trF_add, trF_sq, fadd_self]
  · rw [hr]
    have exy : x + y = a + b := by rw [hy, fadd_cancel]
    have main : (x = a ∧ y = b) ∨ (x = b ∧ y = a) := by
      rcases hfac x rx with hx | hx
      · left
        refine ⟨hx, ?_⟩
        rw [hy, hx, fadd_cancel]
      · right
        refine ⟨hx, ?_⟩
        rw [hy, hx, fadd_comm a b, fadd_cancel]
    rcases main with ⟨rfl, rfl⟩ | ⟨rfl, rfl⟩
    · unfold mn mx
      first | (rw [if_pos (by omega), if_neg (by omega)]) | (simp; omega)
    · unfold mn mx
      first | (rw [if_neg (by omega), if_pos (by omega)]) | (simp; omega)
end Go.Proofs.Ytadfobooofkelaa.X

namespace Go.Proofs.Ytadfobooofkelaa.X
open Go.RowKit Go.Proofs.YtadfobooofkelaaW.PrintWords Go.Proofs.YtadfobooofkelaaW.PrintLast Go.Proofs.YtadfobooofkelaaW.PrintMore Go.Proofs.Ytadfobooofkelaa.Nim
set_option linter.unusedSimpArgs false
set_option linter.unusedVariables false
open Classical in
noncomputable def ordStep (a : F 4) (n p : Nat) : Nat := if fpow a (n / p) = 1 then n / p else n
noncomputable def ordF (a : F 4) : Nat := ordStep a (ordStep a (ordStep a (ordStep a 65535 3) 5) 17) 257
theorem ordStep_or (a : F 4) (n p : Nat) : ordStep a n p = n / p ∨ ordStep a n p = n := by
  unfold ordStep
  split
  · exact .inl rfl
  · exact .inr rfl
theorem ordF_mem (a : F 4) : 0 < ordF a ∧ ordF a ≤ 65535 := by
  unfold ordF
  have h1 := ordStep_or a 65535 3
  generalize ordStep a 65535 3 = n1 at h1
  have h2 := ordStep_or a n1 5
  generalize ordStep a n1 5 = n2 at h2
  have h3 := ordStep_or a n2 17
  generalize ordStep a n2 17 = n3 at h3
  have h4 := ordStep_or a n3 257
  generalize ordStep a n3 257 = n4 at h4
  omega
def nmS (a b : Nat) : Nat := if a < 16 ∧ b < 16 then nm 2 a b else if a < 256 ∧ b < 256 then nm 3 a b else nm 4 a b
theorem nmS_eq (a b : Nat) : nmS a b = nm 4 a b := by
  unfold nmS
  split
  · rename_i h
    exact (nm_lift_le (i := 2) (k := 4) (by decide) h.1 h.2).symm
  · split
    · rename_i h
      exact (nm_lift_le (i := 3) (k := 4) (by decide) h.1 h.2).symm
    · rfl
def pw : Nat → Nat → Nat → Nat → Nat
  | 0, _, _, out => out
  | f + 1, a, n, out => if n = 0 then out else pw f (nmS a a) (n / 2) (if n % 2 = 1 then nmS out a else out)
theorem pw_eq : ∀ (f : Nat) (a out : F 4) (n : Nat), n < 2 ^ f → pw f (fval a) n (fval out) = fval (out * fpow a n)
  | 0, a, out, n, h => by
    have : n = 0 := by simpa using h
    subst this
    rw [pw, show fpow a 0 = 1 from rfl, fmul_one]
  | f + 1, a, out, n, h => by
    rw [pw]
    by_cases h0 : n = 0
    · subst h0
      rw [if_pos rfl, show fpow a 0 = 1 from rfl, fmul_one]
    · rw [if_neg h0, nmS_eq, nmS_eq, ← fval_mul, ← fval_mul]
      rw [Nat.pow_succ] at h
      by_cases hp : n % 2 = 1
      · rw [if_pos hp, pw_eq f (a * a) (out * a) (n / 2) (by omega), odd_step out a n hp]
      · rw [if_neg hp, pw_eq f (a * a) out (n / 2) (by omega), even_step out a n (by omega)]
def ordS (a n p : Nat) : Nat := if pw 16 a (n / p) 1 = 1 then n / p else n
def ordN (a : Nat) : Nat := ordS a (ordS a (ordS a (ordS a 65535 3) 5) 17) 257
theorem ordS_eq (a : F 4) (n p : Nat) (h : n / p < 65536) : ordS (fval a) n p = ordStep a n p := by
  have e := pw_eq 16 a 1 (n / p) h
  rw [fone_mul, fval_one] at e
  unfold ordS ordStep
  rw [e]
  by_cases hc : fpow a (n / p) = 1
  · rw [if_pos hc, if_pos (by rw [hc, fval_one])]
  · rw [if_neg hc, if_neg (fun h => hc (fval_inj (h.trans (fval_one 4).symm)))]
theorem ordN_eq (a : F 4) : ordN (fval a) = ordF a := by
  unfold ordN ordF
  have h1 := ordStep_or a 65535 3
  rw [ordS_eq a 65535 3 (by decide)]
  generalize ordStep a 65535 3 = n1 at h1
  have h2 := ordStep_or a n1 5
  rw [ordS_eq a n1 5 (by omega)]
  generalize ordStep a n1 5 = n2 at h2
  have h3 := ordStep_or a n2 17
  rw [ordS_eq a n2 17 (by omega)]
  generalize ordStep a n2 17 = n3 at h3
  rw [ordS_eq a n3 257 (by omega)]
theorem ordN_of (n : Nat) (h : n < 65536) : ordF (fof 4 n) = ordN n := by
  rw [← ordN_eq, fval_of n h]
theorem fpow_low {k : Nat} (a : F k) : ∀ n, fpow (F.pair 0 a) n = F.pair 0 (fpow a n)
  | 0 => rfl
  | n + 1 => by
    show F.pair 0 a * fpow (F.pair 0 a) n = F.pair 0 (a * fpow a n)
    rw [fpow_low a n, low_mul]
theorem low_pow (n : Nat) (h0 : n ≠ 0) (h : n < 256) : fpow (fof 4 n) 255 = 1 := by
  have e : fof 4 n = F.pair 0 (fof 3 n) := by
    apply fval_inj
    rw [fval_of n (by show n < 65536; omega)]
    have e1 : fval (F.pair 0 (fof 3 n)) % 2 ^ 2 ^ 3 = n := by rw [fval_mod, fval_of n h]
    have e2 : fval (F.pair 0 (fof 3 n)) / 2 ^ 2 ^ 3 = 0 := by rw [fval_div, fval_zero]
    have e3 := Nat.div_add_mod (fval (F.pair 0 (fof 3 n))) (2 ^ 2 ^ 3)
    rw [e1, e2] at e3
    omega
  have hb : fof 3 n ≠ 0 := fun hb => h0 (by
    have := congrArg fval hb
    rwa [fval_of n h, fval_zero] at this)
  have := fpow_ord hb
  rw [e, fpow_low]
  rw [show 2 ^ 2 ^ 3 - 1 = 255 from rfl] at this
  rw [this]
  rfl
theorem low_ord (n : Nat) (h0 : n ≠ 0) (h : n < 256) : ordF (fof 4 n) % 65535 ≠ 0 ∧ ordF (fof 4 n) ≠ 65535 := by
  have hp := low_pow n h0 h
  have hm := ordF_mem (fof 4 n)
  suffices hs : ordF (fof 4 n) ≠ 65535 by
    refine ⟨?_, hs⟩
    rw [Nat.mod_eq_of_lt (by omega)]
    omega
  intro e
  unfold ordF at e
  have h1 := ordStep_or (fof 4 n) 65535 3
  generalize ordStep (fof 4 n) 65535 3 = n1 at h1 e
  have h2 := ordStep_or (fof 4 n) n1 5
  generalize ordStep (fof 4 n) n1 5 = n2 at h2 e
  have h3 := ordStep_or (fof 4 n) n2 17
  generalize ordStep (fof 4 n) n2 17 = n3 at h3 e
  have h4 := ordStep_or (fof 4 n) n3 257
  have e3 : n3 = 65535 := by omega
  subst e3
  unfold ordStep at e
  rw [if_pos (by exact hp)] at e
  omega
theorem iord_ev (a : F 4) : Ev (fun k => impl_order.f k (tI a)) ((ordF a : Nat) : Int) := by
  unfold impl_order.f
  refine ev_some (a := [3, 5, 17, 257]) rfl ?_
  have step : ∀ (n i p : Nat) (r : Int), i < 4 → rd [3, 5, 17, 257] (i : Int) = (p : Int) → p ≠ 0 → n ≤ 65535 →
      Ev (fun k => impl_order.l0 k (tI a) ((ordStep a n p : Nat) : Int) [3, 5, 17, 257] 4 ((i + 1 : Nat) : Int)) r → Ev (fun k => impl_order.l0 k (tI a) (n : Int) [3, 5, 17, 257] 4 (i : Int)) r := by
    intro n i p r hi hp h0 hn h
    have hd : wrap64 (Int.tdiv (n : Int) (p : Int)) = ((n / p : Nat) : Int) := by
      have e : Int.tdiv (n : Int) (p : Int) = ((n / p : Nat) : Int) := by rw [Int.tdiv_eq_ediv_of_nonneg (by omega)]; rfl
      rw [e]
      exact p_w64 (Int.le_trans (by decide) (Int.natCast_nonneg _)) (Int.le_trans (Int.ofNat_le.2 (Nat.le_trans (Nat.div_le_self n p) hn)) (by decide))
    have hpw : Ev (fun k => impl_power.f k (tI a) ((n / p : Nat) : Int)) (tI (fpow a (n / p))) := by
      unfold impl_power.f
      have := implPower_l0 (n / p) a 1 (by have := Nat.div_le_self n p; omega)
      rw [fone_mul, tI_one] at this
      exact this
    refine Ev.step (f := fun k => (impl_power.f k (tI a) ((n / p : Nat) : Int)).bind fun t => if t = 1 then impl_order.l0 k (tI a) ((n / p : Nat) : Int) [3, 5, 17, 257] 4 ((i + 1 : Nat) : Int) else impl_order.l0 k (tI a) (n : Int) [3, 5, 17, 257] 4 ((i + 1 : Nat) : Int)) (fun k => ?_) (Ev.bind hpw ?_)
    · simp only [impl_order.l0, hp, hd]
      rw [if_pos (by omega), if_pos (by omega), if_pos (by simp; omega), if_neg (by omega), w64n i (by omega)]
    · unfold ordStep at h
      by_cases hc : fpow a (n / p) = 1
      · rw [if_pos hc] at h
        exact p_pos (by rw [hc, tI_one]) h
      · rw [if_neg hc] at h
        exact p_neg (fun e => hc (tI_inj (e.trans tI_one.symm))) h
  have h1 := ordStep_or a 65535 3
  have h2 := ordStep_or a (ordStep a 65535 3) 5
  have h3 := ordStep_or a (ordStep a (ordStep a 65535 3) 5) 17
  refine step 65535 0 3 _ (by omega) rfl (by omega) (by omega) (step _ 1 5 _ (by omega) rfl (by omega) (by omega) (step _ 2 17 _ (by omega) rfl (by omega) (by omega) (step _ 3 257 _ (by omega) rfl (by omega) (by omega) ?_)))
  refine Ev.step (f := fun _ => some ((ordF a : Nat) : Int)) (fun k => ?_) (Ev.now _)
  simp only [impl_order.l0]
  rw [if_neg (by omega)]
  rfl
theorem sord_ev (a : F 4) : Ev (fun k => spec_l01Order.f k (tI a)) ((ordF a : Nat) : Int) := by
  unfold spec_l01Order.f
  have step : ∀ (n i p : Nat) (r : Int), i < 4 → rd [3, 5, 17, 257] (i : Int) = (p : Int) → p ≠ 0 → n ≤ 65535 →
      Ev (fun k => spec_l01Order.l0 k (tI a) ((ordStep a n p : Nat) : Int) [3, 5, 17, 257] ((i + 1 : Nat) : Int)) r → Ev (fun k => spec_l01Order.l0 k (tI a) (n : Int) [3, 5, 17, 257] (i : Int)) r := by
    intro n i p r hi hp h0 hn h
    have hd : wrap64 (Int.tdiv (n : Int) (p : Int)) = ((n / p : Nat) : Int) := by
      have e : Int.tdiv (n : Int) (p : Int) = ((n / p : Nat) : Int) := by rw [Int.tdiv_eq_ediv_of_nonneg (by omega)]; rfl
      rw [e]
      exact p_w64 (Int.le_trans (by decide) (Int.natCast_nonneg _)) (Int.le_trans (Int.ofNat_le.2 (Nat.le_trans (Nat.div_le_self n p) hn)) (by decide))
    have hpw : Ev (fun k => spec_l01Power.f k (tI a) ((n / p : Nat) : Int)) (tI (fpow a (n / p))) := by
      unfold spec_l01Power.f
      have := specPower_l0 (n / p) a 1 (by have := Nat.div_le_self n p; omega)
      rw [fone_mul, tI_one] at this
      exact this
    refine Ev.step (f := fun k => (spec_l01Power.f k (tI a) ((n / p : Nat) : Int)).bind fun t => if t = 1 then spec_l01Order.l0 k (tI a) ((n / p : Nat) : Int) [3, 5, 17, 257] ((i + 1 : Nat) : Int) else spec_l01Order.l0 k (tI a) (n : Int) [3, 5, 17, 257] ((i + 1 : Nat) : Int)) (fun k => ?_) (Ev.bind hpw ?_)
    · simp only [spec_l01Order.l0, hp, hd]
      rw [if_pos (by simp; omega), if_pos (by omega), if_neg (by omega), w64n i (by omega)]
    · unfold ordStep at h
      by_cases hc : fpow a (n / p) = 1
      · rw [if_pos hc] at h
        exact p_pos (by rw [hc, tI_one]) h
      · rw [if_neg hc] at h
        exact p_neg (fun e => hc (tI_inj (e.trans tI_one.symm))) h
  have h1 := ordStep_or a 65535 3
  have h2 := ordStep_or a (ordStep a 65535 3) 5
  have h3 := ordStep_or a (ordStep a (ordStep a 65535 3) 5) 17
  refine step 65535 0 3 _ (by omega) rfl (by omega) (by omega) (step _ 1 5 _ (by omega) rfl (by omega) (by omega) (step _ 2 17 _ (by omega) rfl (by omega) (by omega) (step _ 3 257 _ (by omega) rfl (by omega) (by omega) ?_)))
  refine Ev.step (f := fun _ => some ((ordF a : Nat) : Int)) (fun k => ?_) (Ev.now _)
  simp only [spec_l01Order.l0]
  rw [if_neg (by simp)]
  rfl
theorem ilg_l0 (S G : Nat) (hG : 1 ≤ G ∧ G < 60000) (hS : S ≤ 65536) (h1 : ordF (fof 4 G) = S - 1) (hS0 : 2 ≤ S) (h2 : ∀ n, 1 ≤ n → n < G → ordF (fof 4 n) ≠ S - 1) : ∀ (d n : Nat), G - n = d → 1 ≤ n → n ≤ G → Ev (fun k => impl_LeastGenerator.l0 k ((S - 1 : Nat) : Int) (n : Int)) ((G : Int), 0) := by
  intro d
  induction d with
  | zero =>
    intro n hd hn hnG
    have e : n = G := by omega
    subst e
    have ho := iord_ev (fof 4 n)
    have et := tI_of (n : Int) (by omega) (by omega)
    rw [Int.toNat_natCast] at et
    rw [et, h1] at ho
    refine Ev.step (f := fun k => (impl_order.f k (n : Int)).bind fun t => if t = ((S - 1 : Nat) : Int) then some ((n : Int), (0 : Int)) else impl_LeastGenerator.l0 k ((S - 1 : Nat) : Int) (IntKind.u16.wrap ((n : Int) + 1))) (fun k => by simp only [impl_LeastGenerator.l0]) (Ev.bind ho (p_pos rfl (Ev.now _)))
  | succ d ih =>
    intro n hd hn hnG
    have ho := iord_ev (fof 4 n)
    have et := tI_of (n : Int) (by omega) (by omega)
    rw [Int.toNat_natCast] at et
    rw [et] at ho
    have hw : IntKind.u16.wrap ((n : Int) + 1) = ((n + 1 : Nat) : Int) := by rw [Nim.wrap_u16]; omega
    have hne := h2 n hn (by omega)
    have := ih (n + 1) (by omega) (by omega) (by omega)
    rw [← hw] at this
    refine Ev.step (f := fun k => (impl_order.f k (n : Int)).bind fun t => if t = ((S - 1 : Nat) : Int) then some ((n : Int), (0 : Int)) else impl_LeastGenerator.l0 k ((S - 1 : Nat) : Int) (IntKind.u16.wrap ((n : Int) + 1))) (fun k => by simp only [impl_LeastGenerator.l0]) (Ev.bind ho (p_neg (by omega) this))
theorem slg_l0 (S G : Nat) (hG : 1 ≤ G ∧ G < 60000) (hS : S ≤ 65536) (h1 : ordF (fof 4 G) = S - 1) (hS0 : 2 ≤ S) (h2 : ∀ n, 2 ≤ n → n < G → ordF (fof 4 n) % (S - 1) ≠ 0) : ∀ (d n : Nat), G - n = d → 2 ≤ n → n ≤ G → Ev (fun k => spec_LeastGenerator.l0 k (S : Int) (n : Int)) ((G : Int), 0) := by
  intro d
  have hw1 : wrap64 ((S : Int) - 1) = ((S - 1 : Nat) : Int) := by rw [p_w64 (by omega) (by omega)]; omega
  have hmod : ∀ m : Nat, Int.tmod (m : Int) ((S - 1 : Nat) : Int) = ((m % (S - 1) : Nat) : Int) := fun m => by rw [Int.tmod_eq_emod_of_nonneg (by omega)]; rfl
  induction d with
  | zero =>
    intro n hd hn hnG
    have e : n = G := by omega
    subst e
    have ho := sord_ev (fof 4 n)
    have et := tI_of (n : Int) (by omega) (by omega)
    rw [Int.toNat_natCast] at et
    rw [et, h1] at ho
    refine Ev.step (f := fun k => (spec_l01Order.f k (n : Int)).bind fun t => if wrap64 ((S : Int) - 1) = 0 then none else if Int.tmod t (wrap64 ((S : Int) - 1)) = 0 then some ((n : Int), (0 : Int)) else spec_LeastGenerator.l0 k (S : Int) (IntKind.u16.wrap ((n : Int) + 1))) (fun k => by simp only [spec_LeastGenerator.l0]) (Ev.bind ho (p_neg (by omega) (p_pos ?_ (Ev.now _))))
    rw [hw1, hmod, Nat.mod_self]; rfl
  | succ d ih =>
    intro n hd hn hnG
    have ho := sord_ev (fof 4 n)
    have et := tI_of (n : Int) (by omega) (by omega)
    rw [Int.toNat_natCast] at et
    rw [et] at ho
    have hw : IntKind.u16.wrap ((n : Int) + 1) = ((n + 1 : Nat) : Int) := by rw [Nim.wrap_u16]; omega
    have hne := h2 n hn (by omega)
    have := ih (n + 1) (by omega) (by omega) (by omega)
    rw [← hw] at this
    refine Ev.step (f := fun k => (spec_l01Order.f k (n : Int)).bind fun t => if wrap64 ((S : Int) - 1) = 0 then none else if Int.tmod t (wrap64 ((S : Int) - 1)) = 0 then some ((n : Int), (0 : Int)) else spec_LeastGenerator.l0 k (S : Int) (IntKind.u16.wrap ((n : Int) + 1))) (fun k => by simp only [spec_LeastGenerator.l0]) (Ev.bind ho (p_neg (by omega) (p_neg ?_ this)))
    rw [hw1, hmod]; omega
def lvS (l : Nat) : Nat := [2, 4, 16, 256, 65536].getD l 2
def lvG (l : Nat) : Nat := [1, 2, 4, 18, 258].getD l 1
def genB (l : Nat) : Bool := (ordN (lvG l) == lvS l - 1) && (List.range (lvG l)).all fun n => n == 0 || ((ordN n != lvS l - 1) && (Nat.blt n 2 || (ordN n % (lvS l - 1) != 0)))
set_option maxRecDepth 100000 in
theorem gen1 : genB 1 = true := by decide +kernel
set_option maxRecDepth 100000 in
theorem gen2 : genB 2 = true := by decide +kernel
set_option maxRecDepth 100000 in
theorem gen3 : genB 3 = true := by decide +kernel
theorem gen_small (l : Nat) (hl : l < 4) (h1 : 1 ≤ l) : ordN (lvG l) = lvS l - 1 ∧ ∀ n, n < lvG l → 1 ≤ n → (ordN n ≠ lvS l - 1 ∧ (2 ≤ n → ordN n % (lvS l - 1) ≠ 0)) := by
  have h : genB l = true := by
    have : l = 1 ∨ l = 2 ∨ l = 3 := by omega
    rcases this with rfl | rfl | rfl
    · exact gen1
    · exact gen2
    · exact gen3
  unfold genB at h
  rw [Bool.and_eq_true, beq_iff_eq, List.all_eq_true] at h
  refine ⟨h.1, fun n n2 n1 => ?_⟩
  have hn := h.2 n (List.mem_range.2 n2)
  rw [Bool.or_eq_true, beq_iff_eq, Bool.and_eq_true, bne_iff_ne, Bool.or_eq_true, bne_iff_ne] at hn
  rcases hn with h0 | ⟨a, b⟩
  · omega
  · refine ⟨a, fun n3 => ?_⟩
    rcases b with b | b
    · rw [Nat.blt_eq] at b
      omega
    · exact b
set_option maxRecDepth 100000 in
theorem gen_great : ordN 258 = 65535 ∧ (ordN 256 ≠ 65535 ∧ ordN 256 % 65535 ≠ 0) ∧ (ordN 257 ≠ 65535 ∧ ordN 257 % 65535 ≠ 0) := by decide +kernel
theorem gens (l : Nat) (h1 : 1 ≤ l) (h4 : l ≤ 4) : ordF (fof 4 (lvG l)) = lvS l - 1 ∧ (∀ n, 1 ≤ n → n < lvG l → ordF (fof 4 n) ≠ lvS l - 1) ∧ (∀ n, 2 ≤ n → n < lvG l → ordF (fof 4 n) % (lvS l - 1) ≠ 0) := by
  by_cases hl : l < 4
  · have hg : lvG l < 60000 := by
      have : ∀ l, l < 5 → lvG l < 60000 := by decide
      exact this l (by omega)
    obtain ⟨a, b⟩ := gen_small l hl h1
    refine ⟨by rw [ordN_of _ (by omega)]; exact a, fun n n1 n2 => ?_, fun n n1 n2 => ?_⟩
    · rw [ordN_of n (by omega)]; exact (b n n2 n1).1
    · rw [ordN_of n (by omega)]; exact (b n n2 (by omega)).2 n1
  · have e : l = 4 := by omega
    subst e
    obtain ⟨a, ⟨b1, b2⟩, c1, c2⟩ := gen_great
    have key : ∀ n, 1 ≤ n → n < 258 → ordF (fof 4 n) ≠ 65535 ∧ ordF (fof 4 n) % 65535 ≠ 0 := by
      intro n n1 n2
      by_cases h : n < 256
      · have := low_ord n (by omega) h
        exact ⟨this.2, this.1⟩
      · rw [ordN_of n (by omega)]
        have : n = 256 ∨ n = 257 := by omega
        rcases this with rfl | rfl
        · exact ⟨b1, b2⟩
        · exact ⟨c1, c2⟩
    exact ⟨by rw [show lvG 4 = 258 from rfl, ordN_of _ (by omega)]; exact a, fun n n1 n2 => (key n n1 n2).1, fun n n1 n2 => (key n (by omega) n2).2⟩
theorem lv_shl : ∀ l : Nat, l < 5 → 1 ≤ l → shl .i64 1 (shl .u64 1 (l : Int)) = (lvS l : Int) ∧ 2 ≤ lvS l ∧ lvS l ≤ 65536 ∧ 2 ≤ lvG l ∧ lvG l < 60000 := by decide +kernel
theorem lg_ev (l : Nat) (h1 : 1 ≤ l) (h4 : l ≤ 4) : Ev (fun k => impl_LeastGenerator.f k (l : Int)) ((lvG l : Int), 0) ∧ Ev (fun k => spec_LeastGenerator.f k (l : Int)) ((lvG l : Int), 0) := by
  obtain ⟨s1, s2, s3, s4, s5⟩ := lv_shl l (by omega) h1
  obtain ⟨g1, g2, g3⟩ := gens l h1 h4
  have hi := ilg_l0 (lvS l) (lvG l) ⟨by omega, s5⟩ s3 g1 s2 g2 (lvG l - 1) 1 rfl (by omega) (by omega)
  have hs := slg_l0 (lvS l) (lvG l) ⟨by omega, s5⟩ s3 g1 s2 g3 (lvG l - 2) 2 rfl (by omega) (by omega)
  have hw : wrap64 ((lvS l : Int) - 1) = ((lvS l - 1 : Nat) : Int) := by rw [p_w64 (by omega) (by omega)]; omega
  have hu : IntKind.u64.wrap (l : Int) = (l : Int) := by simp [IntKind.wrap, IntKind.bits, IntKind.signed]; omega
  constructor
  · unfold impl_LeastGenerator.f
    refine ev_some (a := true) (by unfold impl_within.f; rw [if_pos (by omega), decide_eq_true (by omega)]) (p_pos rfl (p_pos (by omega) ?_))
    rw [s1, hw]
    exact hi
  · unfold spec_LeastGenerator.f
    refine ev_some (a := true) (by unfold spec_l00In.f; rw [if_pos (by omega), decide_eq_true (by omega)]) (p_pos rfl (p_pos (by rw [hu]; omega) ?_))
    rw [hu, s1]
    exact hs
theorem iorder_ev (l : Nat) (h1 : 1 ≤ l) (h4 : l ≤ 4) : Ev (fun k => impl_OrderOf.f k (lvG l : Int)) ((lvS l : Int) - 1, 0) := by
  obtain ⟨s1, s2, s3, s4, s5⟩ := lv_shl l (by omega) h1
  obtain ⟨g1, g2, g3⟩ := gens l h1 h4
  unfold impl_OrderOf.f
  refine p_neg (by omega) ?_
  have ho := iord_ev (fof 4 (lvG l))
  have et := tI_of (lvG l : Int) (by omega) (by omega)
  rw [Int.toNat_natCast] at et
  rw [et, g1] at ho
  have e : ((lvS l - 1 : Nat) : Int) = (lvS l : Int) - 1 := by omega
  rw [e] at ho
  exact Ev.bind ho (Ev.now _)
end Go.Proofs.Ytadfobooofkelaa.X

namespace Go.Proofs.Ytadfobooofkelaa.X
open Go.RowKit Go.Proofs.YtadfobooofkelaaW.PrintWords Go.Proofs.YtadfobooofkelaaW.PrintLast Go.Proofs.YtadfobooofkelaaW.PrintMore Go.Proofs.Ytadfobooofkelaa.Nim
set_option linter.unusedSimpArgs false
set_option linter.unusedVariables false
theorem and255 (x : Int) : 0 ≤ Go.bits .and .u64 x 255 ∧ Go.bits .and .u64 x 255 < 256 := by
  have e0 : (BitVec.ofInt IntKind.u64.bits 255).toNat = 255 := by decide +kernel
  have h : Go.bits .and .u64 x 255 = IntKind.u64.wrap (((BitVec.ofInt IntKind.u64.bits x).toNat &&& 255 : Nat) : Int) := by
    simp only [Go.bits, BitVec.toNat_and, e0]
  have hle : (BitVec.ofInt IntKind.u64.bits x).toNat &&& 255 ≤ 255 := Nat.and_le_right
  have hw : ∀ n : Int, IntKind.u64.wrap n = n % 18446744073709551616 := fun n => by simp [IntKind.wrap, IntKind.bits, IntKind.signed]
  rw [h, hw]
  omega
theorem rd_byte {l : List Int} (h : ∀ x ∈ l, 0 ≤ x ∧ x < 256) (i : Int) : 0 ≤ rd l i ∧ rd l i < 256 := by
  unfold rd
  rw [List.getD_eq_getElem?_getD]
  cases hc : l[i.toNat]? with
  | none => exact ⟨by simp, by simp⟩
  | some x => exact h x (List.mem_of_getElem? hc)
theorem next_ok (l : List Int) (hl : l.length ≤ 3000) (hw : ∀ x ∈ l, 0 ≤ x ∧ x < 256) (p s : Int) (h0 : 0 ≤ p) (h1 : p ≤ 100) : ∃ v s', spec_l00Src_next.f l p s = some (v, p + 1, s') ∧ 0 ≤ v ∧ v < 256 := by
  unfold spec_l00Src_next.f
  have e : wrap64 (p + 1) = p + 1 := p_w64 (by omega) (by omega)
  rw [e]
  by_cases hc : p < (l.length : Int)
  · have hb := rd_byte hw p
    have eb : wrap64 (rd l p) = rd l p := p_w64 (by omega) (by omega)
    rw [if_pos hc, if_pos h0, if_pos (by omega), eb]
    exact ⟨_, _, rfl, hb.1, hb.2⟩
  · rw [if_neg hc, if_neg (by omega)]
    refine ⟨_, _, rfl, ?_⟩
    generalize (_ : Int) / 1099511627776 = z
    have hb := and255 z
    rw [p_w64 (by omega) (by omega)]
    exact hb
theorem pick_ok (l : List Int) (hl : l.length ≤ 3000) (hw : ∀ x ∈ l, 0 ≤ x ∧ x < 256) (p s n : Int) (h0 : 0 ≤ p) (h1 : p ≤ 90) (hn : 2 ≤ n) (hn2 : n ≤ 65536) : ∃ v p' s', spec_l00Src_pick.f l p s n = some (v, p', s') ∧ 0 ≤ v ∧ v < n ∧ p ≤ p' ∧ p' ≤ p + 2 := by
  unfold spec_l00Src_pick.f
  rw [if_neg (by omega)]
  obtain ⟨v1, s1, e1, a1, b1⟩ := next_ok l hl hw p s h0 (by omega)
  rw [e1, Option.bind_some]
  dsimp only
  by_cases hc : n > 200
  · rw [if_pos hc]
    obtain ⟨v2, s2, e2, a2, b2⟩ := next_ok l hl hw (p + 1) s1 (by omega) (by omega)
    rw [e2, Option.bind_some, if_neg (by omega)]
    dsimp only
    have w1 : wrap64 (v1 * 256) = v1 * 256 := p_w64 (by omega) (by omega)
    rw [w1, p_w64 (by omega) (by omega), Int.tmod_eq_emod_of_nonneg (by omega)]
    exact ⟨_, _, _, rfl, Int.emod_nonneg _ (by omega), Int.emod_lt_of_pos _ (by omega), by omega, by omega⟩
  · rw [if_neg hc, if_neg (by omega), Int.tmod_eq_emod_of_nonneg (by omega)]
    exact ⟨_, _, _, rfl, Int.emod_nonneg _ (by omega), Int.emod_lt_of_pos _ (by omega), by omega, by omega⟩
theorem inR_wrap (x : Int) : inR (IntKind.u16.wrap x) := by
  rw [Nim.wrap_u16]
  exact ⟨by omega, by omega⟩
theorem any_ev (l : List Int) (hl : l.length ≤ 3000) (hw : ∀ x ∈ l, 0 ≤ x ∧ x < 256) : ∃ v p s, Ev (fun k => spec_l01Any.f k l 0 0) (v, p, s) ∧ inR v := by
  unfold spec_l01Any.f
  obtain ⟨v1, p1, s1, e1, a1, b1, c1, d1⟩ := pick_ok l hl hw 0 0 6 (by omega) (by omega) (by omega) (by omega)
  have pk := fun (n : Int) (hn : 2 ≤ n) (hn2 : n ≤ 65536) => pick_ok l hl hw p1 s1 n (by omega) (by omega) hn hn2
  have hj : ∀ flag : Bool, ∃ v p s, Ev (fun k => spec_l01Any.j0 k v1 flag l p1 s1) (v, p, s) ∧ inR v := by
    intro flag
    cases flag with
    | true =>
      obtain ⟨v2, p2, s2, e2, _⟩ := pk 256 (by omega) (by omega)
      refine ⟨_, _, _, Ev.step (f := fun _ => (spec_l00Src_pick.f l p1 s1 256).bind fun bt => some (IntKind.u16.wrap (bt.1), bt.2.1, bt.2.2)) (fun k => by simp only [spec_l01Any.j0, if_true]) (ev_some e2 (Ev.now _)), inR_wrap _⟩
    | false =>
      by_cases h4 : v1 = 4
      · obtain ⟨v2, p2, s2, e2, a2, b2, _⟩ := pk 8 (by omega) (by omega)
        have ea : spec_l00Src_among.f l p1 s1 [0, 1, 2, 4, 16, 256, 65535, 32768] = some (rd [0, 1, 2, 4, 16, 256, 65535, 32768] v2, p2, s2) := by
          unfold spec_l00Src_among.f
          rw [show (([0, 1, 2, 4, 16, 256, 65535, 32768] : List Int).length : Int) = 8 from rfl, e2, Option.bind_some, if_pos a2, if_pos b2]
        refine ⟨_, _, _, Ev.step (f := fun _ => (spec_l00Src_among.f l p1 s1 [0, 1, 2, 4, 16, 256, 65535, 32768]).bind fun bt => some (IntKind.u16.wrap (bt.1), bt.2.1, bt.2.2)) (fun k => by simp only [spec_l01Any.j0, Bool.false_eq_true, if_false, if_pos h4]) (ev_some ea (Ev.now _)), inR_wrap _⟩
      · obtain ⟨v2, p2, s2, e2, _⟩ := pk 65536 (by omega) (by omega)
        refine ⟨_, _, _, Ev.step (f := fun _ => (spec_l00Src_pick.f l p1 s1 65536).bind fun bt => some (IntKind.u16.wrap (bt.1), bt.2.1, bt.2.2)) (fun k => by simp only [spec_l01Any.j0, Bool.false_eq_true, if_false, if_neg h4]) (ev_some e2 (Ev.now _)), inR_wrap _⟩
  by_cases h0 : v1 = 0
  · obtain ⟨v2, p2, s2, e2, _⟩ := pk 4 (by omega) (by omega)
    exact ⟨_, _, _, ev_some e1 (p_pos h0 (ev_some e2 (Ev.now _))), inR_wrap _⟩
  · by_cases h1 : v1 = 1
    · obtain ⟨v2, p2, s2, e2, _⟩ := pk 16 (by omega) (by omega)
      exact ⟨_, _, _, ev_some e1 (p_neg h0 (p_pos h1 (ev_some e2 (Ev.now _)))), inR_wrap _⟩
    · by_cases h2 : v1 = 2
      · obtain ⟨v, p, s, h, hv⟩ := hj (v1 == 2)
        exact ⟨v, p, s, ev_some e1 (p_neg h0 (p_neg h1 (p_pos h2 h))), hv⟩
      · obtain ⟨v, p, s, h, hv⟩ := hj (v1 == 3)
        exact ⟨v, p, s, ev_some e1 (p_neg h0 (p_neg h1 (p_neg h2 h))), hv⟩
theorem anim_ev (l : List Int) (hl : l.length ≤ 3000) (hw : ∀ x ∈ l, 0 ≤ x ∧ x < 256) : ∃ a : F 4, Ev (fun k => spec_A2Nim.f k l) (tI a) := by
  obtain ⟨v, p, s, h, hv⟩ := any_ev l hl hw
  refine ⟨fof 4 v.toNat, ?_⟩
  rw [tI_of v hv.1 hv.2]
  unfold spec_A2Nim.f
  exact ev_some (a := (l, 0, 0)) rfl (Ev.bind h (Ev.now _))
theorem same_l0 (L : List Int) (hL : L.length ≤ 3000) : ∀ (d i : Nat), L.length - i = d → i ≤ L.length → Ev (fun k => spec_l05Same.l0 k L L (i : Int)) true := by
  intro d
  induction d with
  | zero =>
    intro i hd hi
    refine Ev.step (f := fun _ => some true) (fun k => ?_) (Ev.now _)
    simp only [spec_l05Same.l0]
    rw [if_neg (by omega)]
  | succ d ih =>
    intro i hd hi
    refine Ev.step (fun k => ?_) (ih (i + 1) (by omega) (by omega))
    simp only [spec_l05Same.l0]
    rw [if_pos (by omega), if_pos (by omega), if_pos (by omega), if_pos trivial, w64n i (by omega)]
theorem same_ev (L : List Int) (hL : L.length ≤ 3000) : Ev (fun k => spec_A2SameNims.f k L L) true := by
  unfold spec_A2SameNims.f spec_l05Same.f
  exact Ev.bind (p_pos rfl (same_l0 L hL L.length 0 rfl (Nat.zero_le _))) (Ev.now _)
theorem sq_spec (a : F 4) : spec_SquareOf.f (tI a) = some (tI (a * a)) := by unfold spec_SquareOf.f; rw [times_spec]; rfl
theorem tn_spec (a b : F 4) : spec_TimesNim.f (tI a) (tI b) = some (tI (a * b)) := by unfold spec_TimesNim.f; rw [times_spec]; rfl
def hrt (x : Int) : Int × Int := if ((redS (x, 0) (Bs 15)).1 == 0) = true then ((redS (x, 0) (Bs 15)).2, 0) else (0, 6)
theorem shr_ev (x : Int) : Ev (fun k => spec_HalfRoot.f k x) (hrt x) := by
  unfold spec_HalfRoot.f hrt
  refine Ev.bind (shalf_ev x) ?_
  dsimp only
  by_cases hc : ((redS (x, 0) (Bs 15)).1 == 0) = true
  · simp only [if_pos hc]; exact Ev.now _
  · simp only [if_neg hc]; exact Ev.now _
theorem ihr_ev (x : Int) : Ev (fun k => impl_HalfRoot.f k x) (hrt x) := by
  unfold impl_HalfRoot.f hrt
  refine Ev.bind (ihalf_ev x) ?_
  dsimp only
  by_cases hc : ((redS (x, 0) (Bs 15)).1 == 0) = true
  · simp only [if_pos hc]; exact Ev.now _
  · simp only [if_neg hc]; exact Ev.now _
theorem half_mod (x : Int) : Int.tmod (redS (x, 0) (Bs 15)).2 2 = 0 := by
  obtain ⟨h1, h2, h3⟩ := red_ev (Bs 15) (x, 0) (show ev16 0 from by decide) Bs_ev
  generalize (redS (x, 0) (Bs 15)).2 = y at h1 h2 h3
  rw [Int.tmod_eq_emod_of_nonneg h1]
  have hb : y.toNat.testBit 0 = false := by
    rw [← h3, Nat.testBit_and]
    have : Nat.testBit 65534 0 = false := by decide
    rw [this, Bool.and_false]
  rw [Nat.testBit_zero, decide_eq_false_iff_not] at hb
  omega
end Go.Proofs.Ytadfobooofkelaa.X

namespace Go.Proofs.Ytadfobooofkelaa.X
open Go.RowKit Go.Proofs.YtadfobooofkelaaW.PrintWords Go.Proofs.YtadfobooofkelaaW.PrintLast Go.Proofs.YtadfobooofkelaaW.PrintMore Go.Proofs.Ytadfobooofkelaa.Nim
set_option linter.unusedSimpArgs false
set_option linter.unusedVariables false
theorem eq_l1 (a b : F 4) (l : Nat) (h1 : 1 ≤ l) (h4 : l ≤ 4) : ∀ (d i : Nat), l - i = d → i ≤ l →
    Ev (fun k => laws_FnEquations.l1 k (tI a) (tI b) [mn (tI a) (tI b), mx (tI a) (tI b)] (l : Int) (lvG l : Int) 0 (lvG l : Int) 0 (lvS i : Int) (i : Int)) true := by
  have hsq : ∀ i, i < 4 → wrap64 ((lvS i : Int) * (lvS i : Int)) = (lvS (i + 1) : Int) := by decide +kernel
  intro d
  induction d with
  | zero =>
    intro i hd hi
    have e : i = l := by omega
    subst e
    refine Ev.step (f := fun k => (impl_OrderOf.f k (lvG i : Int)).bind fun bt => if bt.2 = 0 then some (bt.1 == wrap64 ((lvS i : Int) - 1)) else none) (fun k => ?_) (Ev.bind (iorder_ev i h1 h4) (p_pos rfl ?_))
    · simp only [laws_FnEquations.l1]
      rw [if_neg (by omega)]
      refine congrArg _ (funext fun bt => ?_)
      exact (if_pos rfl).trans ((if_pos (by simp)).trans ((if_pos rfl).trans ((if_pos (by simp)).trans ((if_pos rfl).trans ((if_pos trivial).trans ((if_pos trivial).trans (if_pos trivial)))))))
    · obtain ⟨s1, s2, s3, s4, s5⟩ := lv_shl i (by omega) h1
      rw [p_w64 (by omega) (by omega), beq_self_eq_true]
      exact Ev.now _
  | succ d ih =>
    intro i hd hi
    have := ih (i + 1) (by omega) (by omega)
    rw [← hsq i (by omega)] at this
    refine Ev.step (fun k => ?_) this
    simp only [laws_FnEquations.l1]
    rw [if_pos (by omega), w64n i (by omega)]
theorem eq_end (a b : F 4) (l1 : List Int) (hw : ∀ x ∈ l1, 0 ≤ x ∧ x < 256) (L : List Int) (hL : a = b → a = 0 → L.length = 1) : Ev (fun k => laws_FnEquations.l0 k l1 (tI a) (tI b) L ((L.length : Nat) : Int)) true := by
  refine Ev.step (fun k => by simp only [laws_FnEquations.l0]; rw [if_neg (by omega)]) ?_
  refine ev_some (tn_spec a b) ?_
  rw [tI_xor]
  refine Ev.bind (iroots_ev (a + b) (a * b)) ?_
  by_cases hab : a = b
  · subst hab
    have er : roots (a + a) (a * a) = [tI a] := by
      unfold roots
      rw [if_pos (fadd_self a)]
      have : fpow (a * a) 32768 = a := by
        rw [← fpow_two]
        exact fpow_self a
      rw [this]
    rw [er]
    refine p_pos rfl (p_pos rfl (p_pos (by simp) (p_pos rfl ?_)))
    by_cases h0 : a = 0
    · refine p_pos (tI_eq0.2 h0) ?_
      rw [hL rfl h0]
      exact Ev.now _
    · exact p_neg (fun e => h0 (tI_eq0.1 e)) (Ev.now _)
  · refine p_neg (fun e => hab (tI_inj e)) ?_
    rw [two_roots hab]
    have hat : ∃ v : Nat, v < 4 ∧ laws_a2At.f l1 0 4 = some (v : Int) := by
      unfold laws_a2At.f
      by_cases hc : (0 : Int) ≥ (l1.length : Int)
      · rw [if_pos hc]; exact ⟨0, by omega, rfl⟩
      · have hb := rd_byte hw 0
        rw [if_neg hc, if_neg (by omega), if_pos (by omega), if_pos (by omega), if_neg (by omega), p_w64 (by omega) (by omega), Int.tmod_eq_emod_of_nonneg (by omega)]
        exact ⟨(rd l1 0 % 4).toNat, by omega, by congr 1; omega⟩
    obtain ⟨v, hv, ea⟩ := hat
    have hlv : wrap64 (1 + (v : Int)) = ((v + 1 : Nat) : Int) := by rw [p_w64 (by omega) (by omega)]; omega
    refine ev_some ea ?_
    rw [hlv]
    obtain ⟨g1, g2⟩ := lg_ev (v + 1) (by omega) (by omega)
    exact Ev.bind g1 (Ev.bind g2 (eq_l1 a b (v + 1) (by omega) (by omega) (v + 1) 0 (by omega) (by omega)))
theorem eq_roots (a b : F 4) (l1 : List Int) (hw : ∀ x ∈ l1, 0 ≤ x ∧ x < 256) : Ev (fun k => laws_FnEquations.l0 k l1 (tI a) (tI b) (roots a b) 0) true := by
  have hroot : ∀ x, isRoot a b x → Go.bits .xor .u16 (Go.bits .xor .u16 (tI (x * x)) (tI (a * x))) (tI b) = 0 := by
    intro x hx
    rw [tI_xor, tI_xor]
    unfold isRoot at hx
    rw [hx, tI_zero]
  have e1 : wrap64 (0 + 1) = 1 := by decide +kernel
  have e2 : wrap64 (1 + 1) = 2 := by decide +kernel
  have e0 : wrap64 (1 - 1) = 0 := by decide +kernel
  rcases roots_tell a b with ⟨hp, x, hr, rx, _⟩ | ⟨hp, hr, _⟩ | ⟨hp, x, y, hr, hlt, hy, rx, ry⟩
  · rw [hr]
    have hend := eq_end a b l1 hw [tI x] (fun _ _ => rfl)
    refine Ev.step (fun k => ?_) hend
    simp only [laws_FnEquations.l0]
    rw [if_pos (by simp), if_pos (by omega)]
    rw [show rd [tI x] 0 = tI x from rfl, sq_spec, Option.bind_some, tn_spec, Option.bind_some, if_pos (hroot x rx), if_neg (by omega), e1]
    rfl
  · rw [hr]
    exact eq_end a b l1 hw [] (fun _ h => absurd h hp)
  · rw [hr]
    have hend := eq_end a b l1 hw [tI x, tI y] (fun _ h => absurd h hp)
    have hxy : Go.bits .xor .u16 (tI y) (tI x) = tI a := by
      rw [tI_xor, hy]
      congr 1
      rw [fadd_comm, fadd_cancel]
    refine Ev.step (f := fun k => laws_FnEquations.l0 k l1 (tI a) (tI b) [tI x, tI y] 1) (fun k => ?_) (Ev.step (fun k => ?_) hend)
    · simp only [laws_FnEquations.l0]
      rw [if_pos (by simp), if_pos (by omega)]
      rw [show rd [tI x, tI y] 0 = tI x from rfl, sq_spec, Option.bind_some, tn_spec, Option.bind_some, if_pos (hroot x rx), if_neg (by omega), e1]
    · simp only [laws_FnEquations.l0, e0]
      rw [if_pos (by simp), if_pos (by omega)]
      rw [show rd [tI x, tI y] 1 = tI y from rfl, show rd [tI x, tI y] 0 = tI x from rfl, sq_spec, Option.bind_some, tn_spec, Option.bind_some, if_pos (hroot y ry), if_pos (by omega), if_pos (by omega), if_pos (by simp), if_neg (by omega), if_pos (by simp), if_pos hxy, e2]
      rfl
theorem roots_short (a b : F 4) : (roots a b).length ≤ 3000 := by
  rcases roots_shape a b with h | ⟨x, h⟩ | ⟨x, y, h⟩ <;> rw [h] <;> simp
theorem eq_j2 (a b : F 4) (l1 : List Int) (hw : ∀ x ∈ l1, 0 ≤ x ∧ x < 256) : Ev (fun k => laws_FnEquations.j2 k l1 (tI a) (tI b) false) true := by
  refine Ev.step (fun k => by simp only [laws_FnEquations.j2, Bool.false_eq_true, if_false]; rfl) ?_
  exact Ev.bind (iroots_ev a b) (Ev.bind (sroots_ev a b) (Ev.bind (same_ev _ (roots_short a b)) (p_pos rfl (eq_roots a b l1 hw))))
theorem eq_j1 (a b : F 4) (l1 : List Int) (hw : ∀ x ∈ l1, 0 ≤ x ∧ x < 256) : Ev (fun k => laws_FnEquations.j1 k l1 (tI a) (tI b) (tI (trF a)) false) true := by
  refine Ev.step (fun k => by simp only [laws_FnEquations.j1, Bool.false_eq_true, if_false]; rfl) ?_
  refine Ev.bind (ihr_ev (tI a)) (Ev.bind (shr_ev (tI a)) (p_pos rfl (p_pos rfl ?_)))
  obtain ⟨x, h1, h2, h3⟩ := half_tells a
  have hm := half_mod (tI a)
  unfold hrt
  generalize redS (tI a, 0) (Bs 15) = v at h1 h2 h3 hm
  by_cases hc : (v.1 == 0) = true
  · have ht : tI (trF a) = 0 := tI_eq0.2 (h2.1 hc)
    simp only [if_pos hc]
    rw [ht]
    refine p_neg (by decide) (p_pos trivial ?_)
    rw [h1]
    refine ev_some (sq_spec x) (p_pos ?_ ?_)
    · rw [tI_xor, h3 (beq_iff_eq.1 hc)]
    · rw [← h1, hm, bne_self_eq_false]
      exact eq_j2 a b l1 hw
  · have ht : (tI (trF a) == 0) = false := by
      rw [beq_eq_false_iff_ne]
      exact fun e => hc (h2.2 (tI_eq0.1 e))
    simp only [if_neg hc]
    refine p_neg ?_ (p_neg (by decide) (eq_j2 a b l1 hw))
    rw [ht]
    decide
theorem eq_j0 (a b : F 4) (l1 : List Int) (hw : ∀ x ∈ l1, 0 ≤ x ∧ x < 256) : Ev (fun k => laws_FnEquations.j0 k l1 (tI a) (tI b) (tI (trF a)) false) true := by
  refine Ev.step (fun k => by simp only [laws_FnEquations.j0, Bool.false_eq_true, if_false]; rfl) ?_
  obtain ⟨D, d1, d2, d3, d4, ei, es⟩ := conj_ev a
  have hlen := conj_len a D
  have hrd : ∀ i, i < D → rd (conj a D) (i : Int) = tI (fsqn i a) := by
    intro i hi
    simp [rd, conj, List.getD_eq_getElem?_getD, hi]
  have hw1 : wrap64 (((conj a D).length : Int) - 1) = ((D - 1 : Nat) : Int) := by rw [hlen, p_w64 (by omega) (by omega)]; omega
  have hdiv : (16 : Int) % ((conj a D).length : Int) = 0 := by
    have h : ((16 % D : Nat) : Int) = 0 := by rw [d3]; rfl
    rw [hlen]
    exact h
  refine Ev.bind ei (Ev.bind es (Ev.bind (same_ev _ (by rw [hlen]; omega)) (p_pos rfl (p_neg (by omega) (p_pos hdiv (p_pos (by omega) (p_pos (hrd 0 (by omega)) ?_)))))))
  rw [hw1]
  refine p_pos (by omega) (p_pos (by omega) ?_)
  rw [hrd (D - 1) (by omega)]
  refine ev_some (sq_spec _) ?_
  have e : fsqn (D - 1) a * fsqn (D - 1) a = a := by
    rw [← fsqn_succ, show D - 1 + 1 = D by omega, d4]
  rw [e, bne_self_eq_false]
  exact eq_j1 a b l1 hw
theorem wf8 {x : Int} (h : (Lit.int .u8 x).wf = true) : 0 ≤ x ∧ x < 256 := by
  simp only [Lit.wf, Bool.and_eq_true, decide_eq_true_eq] at h
  have e1 : IntKind.u8.min = 0 := by decide +kernel
  have e2 : IntKind.u8.max = 255 := by decide +kernel
  rw [e1, e2] at h
  omega
end Go.Proofs.Ytadfobooofkelaa.X
namespace Go.Proofs.Ytadfobooofkelaa.Pure
open Go.RowKit Go.Proofs.Ytadfobooofkelaa.X Go.Proofs.YtadfobooofkelaaW.PrintWords Go.Proofs.YtadfobooofkelaaW.PrintLast Go.Proofs.Ytadfobooofkelaa.Nim
theorem FnEquations : laws_FnEquations.Pure := by
  intro l0 l1 _ _ hw0 _ _ hw1
  refine Ev.rounds ?_
  unfold laws_FnEquations.f
  by_cases h0 : (l0.length : Int) > 3000
  · exact ev_some (a := true) (by unfold laws_a2Long.f; rw [if_pos h0]) (p_pos rfl (Ev.now _))
  by_cases h1 : (l1.length : Int) > 3000
  · exact ev_some (a := true) (by unfold laws_a2Long.f; rw [if_neg h0, decide_eq_true h1]) (p_pos rfl (Ev.now _))
  refine ev_some (a := false) (by unfold laws_a2Long.f; rw [if_neg h0, decide_eq_false h1]) (p_neg (by decide) ?_)
  obtain ⟨a, ha⟩ := anim_ev l0 (by omega) (fun x hx => wf8 (hw0 x hx))
  obtain ⟨b, hb⟩ := anim_ev l1 (by omega) (fun x hx => wf8 (hw1 x hx))
  refine Ev.bind ha (Ev.bind hb (Ev.bind (itr_ev a) (Ev.bind (str_ev a) (p_pos rfl (p_neg ?_ ?_)))))
  · rcases trF_bit a with h | h <;> rw [h]
    · rw [tI_zero]; decide
    · rw [tI_one]; decide
  · rw [tI_xor]
    refine Ev.bind (itr_ev (a + b)) (Ev.bind (str_ev b) (p_pos (by rw [tI_xor, trF_add]) (ev_some (sq_spec a) (Ev.bind (itr_ev (a * a)) ?_))))
    rw [trF_sq, bne_self_eq_false]
    exact eq_j0 a b l1 (fun x hx => wf8 (hw1 x hx))
end Go.Proofs.Ytadfobooofkelaa.Pure
