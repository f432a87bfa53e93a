/- Texts of this claim, joined: what the claim's last text comes to. They hold without any condition beyond those that each states. -/
import Derived.Test.YteanndgkjoinmaaYMerge5
-- Laid by wip/xprint.py of this session (the kit's print program, with some contracts given by hand). Not trusted: Lean checks it.
namespace Go.Proofs.Yteanndgkjoinmaa.X
open Go.RowKit Go.Proofs.YteanndgkjoinmaaW.PrintWords Go.Proofs.YteanndgkjoinmaaW.PrintLast Go.Proofs.YteanndgkjoinmaaW.PrintMore
attribute [local go_sem] max2_int min2_int max_two min_two max_three min_three max_four min_four
set_option linter.unusedVariables false
set_option linter.unusedSimpArgs false
-- IMPORT Derived.Test.YteanndgkjoinmaaHmerge
-- the contract lies in the text named above (wip/c1h); it leans on impl_ValidCircuit
def impl_MergeCircuit.f (k : Nat) (a0_0 : Int) (l0_1 : List S68) (l0_2 : List Int) : Option (Int × (List S68) × List Int × Int) := Mg.hand_MergeCircuit.f k a0_0 l0_1 l0_2
theorem impl_MergeCircuit.calls (k : Nat) (a0_0 : Int) (A0_1 : Option Addr) (c0_1 : Nat) (l0_1 : List (S68)) (A0_2 : Option Addr) (c0_2 : Nat) (l0_2 : List Int) (r1 : Int) (r2 : List (S68)) (r3 : List Int) (r4 : Int) (w : World) (hr0_1 : Kd.C k68 w A0_1 l0_1.length l0_1) (hc0_1 : l0_1.length ≤ c0_1) (hr0_2 : Kd.C (Kd.int .i16) w A0_2 l0_2.length l0_2) (hc0_2 : l0_2.length ≤ c0_2) (h : impl_MergeCircuit.f k a0_0 l0_1 l0_2 = some (r1, r2, r3, r4)) :
    Calls Try.prog 17 #[.agg #[.int .i8 a0_0, .slice A0_1 l0_1.length c0_1, .slice A0_2 l0_2.length c0_2]] w fun e w' => ∃ v1_ v2_ : Value, e = .returned (.tuple #[.agg #[.int .i8 r1, v1_, v2_], .int .i64 r4]) ∧ Kd.R k68 68 w' w.heap.size (fun _ => True) v1_ r2 ∧ Kd.R (Kd.int .i16) 66 w' w.heap.size (fun _ => True) v2_ r3 ∧ Below w.heap.size w w' :=
  Mg.hand_MergeCircuit.calls k a0_0 A0_1 c0_1 l0_1 A0_2 c0_2 l0_2 r1 r2 r3 r4 w hr0_1 hc0_1 hr0_2 hc0_2 h
end Go.Proofs.Yteanndgkjoinmaa.X

-- Laid by wip/xprint.py of this session (the kit's print program, with some contracts given by hand). Not trusted: Lean checks it.
namespace Go.Proofs.Yteanndgkjoinmaa.X
open Go.RowKit Go.Proofs.YteanndgkjoinmaaW.PrintWords Go.Proofs.YteanndgkjoinmaaW.PrintLast Go.Proofs.YteanndgkjoinmaaW.PrintMore
attribute [local go_sem] max2_int min2_int max_two min_two max_three min_three max_four min_four
set_option linter.unusedVariables false
set_option linter.unusedSimpArgs false
mutual
def laws_FnExactMergeCircuit.j0 : Nat → Int → Int → Bool → Int → List (S114) → List Int → Int → List (S68) → List Int → Int → List (S68) → List Int → Int → List (S68) → List Int → Option (Bool)
  | 0, _, _, _, _, _, _, _, _, _, _, _, _, _, _, _ => none
  | k + 1, x5, x8, x40, x102000, x102001, x102002, x119000, x119001, x119002, x127000, x127001, x127002, x136000, x136001, x136002 => if x40 = true then (none) else ((laws_toCircuit.f k x102000 x102001 x102002).bind fun bt137 => ((laws_eqCircuit.f k x127000 x127001 x127002 bt137.1 bt137.2.1 bt137.2.2).bind fun t144 => (if t144 = true then ((laws_markCircuit.f k x127000 x127001 x127002 1).bind fun bt145 => (if bt145.1 < 0 then (laws_FnExactMergeCircuit.j1 k x5 true x102000 x102001 x102002 x119000 x119001 x119002 x136000 x136001 x136002) else ((laws_eqCircuit.f k x136000 x136001 x136002 x119000 x119001 x119002).bind fun t148 => (if t148 = true then (laws_FnExactMergeCircuit.j1 k x5 (x8 != x5) x102000 x102001 x102002 x119000 x119001 x119002 x136000 x136001 x136002) else (laws_FnExactMergeCircuit.j1 k x5 true x102000 x102001 x102002 x119000 x119001 x119002 x136000 x136001 x136002))))) else (none))))
def laws_FnExactMergeCircuit.j1 : Nat → Int → Bool → Int → List (S114) → List Int → Int → List (S68) → List Int → Int → List (S68) → List Int → Option (Bool)
  | 0, _, _, _, _, _, _, _, _, _, _, _ => none
  | k + 1, x5, x61, x102000, x102001, x102002, x119000, x119001, x119002, x136000, x136001, x136002 => if x61 = true then (none) else ((laws_markCircuit.f k x136000 x136001 x136002 1).bind fun bt149 => ((laws_heldCircuit.f k x136000 bt149.2.1 bt149.2.2 1).bind fun t152 => (if t152 < 0 then (none) else (if t152 = bt149.1 then ((laws_toCircuit.f k x102000 x102001 x102002).bind fun bt153 => ((impl_MergeCircuit.f k bt153.1 bt153.2.1 bt153.2.2).bind fun bt160 => ((laws_eqCircuit.f k bt160.1 bt160.2.1 bt160.2.2.1 x119000 x119001 x119002).bind fun t169 => (if t169 = true then (laws_FnExactMergeCircuit.j2 k bt149.1 (bt160.2.2.2 != x5) x136000 bt149.2.1 bt149.2.2) else (laws_FnExactMergeCircuit.j2 k bt149.1 true x136000 bt149.2.1 bt149.2.2))))) else (none)))))
def laws_FnExactMergeCircuit.j2 : Nat → Int → Bool → Int → List (S68) → List Int → Option (Bool)
  | 0, _, _, _, _, _ => none
  | k + 1, x10, x87, x136000, x136001, x136002 => if x87 = true then (none) else ((laws_heldCircuit.f k x136000 x136001 x136002 1).bind fun t170 => (if t170 < 0 then (none) else (if t170 = x10 then (some true) else (none))))
end
def laws_FnExactMergeCircuit.f (k : Nat) (a0_0 : Int) (l0_1 : List (S114)) (l0_2 : List Int) : Option (Bool) := (laws_szCircuit.f a0_0 l0_1 l0_2 1048576).bind fun t102 => (if t102 < 0 then (some true) else ((laws_toCircuit.f k a0_0 l0_1 l0_2).bind fun bt103 => ((spec_MergeCircuit.f k bt103.1 bt103.2.1 bt103.2.2).bind fun bt110 => ((laws_toCircuit.f k a0_0 l0_1 l0_2).bind fun bt119 => ((impl_MergeCircuit.f k bt119.1 bt119.2.1 bt119.2.2).bind fun bt127 => ((laws_eqCircuit.f k bt127.1 bt127.2.1 bt127.2.2.1 bt110.1 bt110.2.1 bt110.2.2.1).bind fun t136 => (if t136 = true then (laws_FnExactMergeCircuit.j0 k bt110.2.2.2 bt127.2.2.2 (bt127.2.2.2 != bt110.2.2.2) a0_0 l0_1 l0_2 bt110.1 bt110.2.1 bt110.2.2.1 bt119.1 bt119.2.1 bt119.2.2 bt127.1 bt127.2.1 bt127.2.2.1) else (laws_FnExactMergeCircuit.j0 k bt110.2.2.2 bt127.2.2.2 true a0_0 l0_1 l0_2 bt110.1 bt110.2.1 bt110.2.2.1 bt119.1 bt119.2.1 bt119.2.2 bt127.1 bt127.2.1 bt127.2.2.1))))))))
set_option maxHeartbeats 8000000 in
set_option maxRecDepth 100000 in
theorem laws_FnExactMergeCircuit.calls (k : Nat) (a0_0 : Int) (A0_1 : Option Addr) (c0_1 : Nat) (l0_1 : List (S114)) (A0_2 : Option Addr) (c0_2 : Nat) (l0_2 : List Int) (r : Bool) (w : World) (hr0_1 : Kd.C k114 w A0_1 l0_1.length l0_1) (hc0_1 : l0_1.length ≤ c0_1) (hr0_2 : Kd.C (Kd.int .i16) w A0_2 l0_2.length l0_2) (hc0_2 : l0_2.length ≤ c0_2) (h : laws_FnExactMergeCircuit.f k a0_0 l0_1 l0_2 = some r) :
    Calls Try.prog 4 #[.agg #[.int .i8 a0_0, .slice A0_1 l0_1.length c0_1, .slice A0_2 l0_2.length c0_2]] w fun e w' => e = .returned (.bool r) ∧ Below w.heap.size w w' := by
  have hu26 := Try.underlying26
  have hu30 := Try.underlying30
  have HR0_1 := Aside0.mk hr0_1
  have HC0_1 := Aside0.mk hc0_1
  clear hr0_1 hc0_1
  have HR0_2 := Aside0.mk hr0_2
  have HC0_2 := Aside0.mk hc0_2
  clear hr0_2 hc0_2
  have HB := Aside0.mk (Below.refl w.heap.size w)
  have H : ((laws_szCircuit.f a0_0 l0_1 l0_2 1048576).bind fun t102 => (if t102 < 0 then (some true) else ((laws_toCircuit.f k a0_0 l0_1 l0_2).bind fun bt103 => ((spec_MergeCircuit.f k bt103.1 bt103.2.1 bt103.2.2).bind fun bt110 => ((laws_toCircuit.f k a0_0 l0_1 l0_2).bind fun bt119 => ((impl_MergeCircuit.f k bt119.1 bt119.2.1 bt119.2.2).bind fun bt127 => ((laws_eqCircuit.f k bt127.1 bt127.2.1 bt127.2.2.1 bt110.1 bt110.2.1 bt110.2.2.1).bind fun t136 => (if t136 = true then (laws_FnExactMergeCircuit.j0 k bt110.2.2.2 bt127.2.2.2 (bt127.2.2.2 != bt110.2.2.2) a0_0 l0_1 l0_2 bt110.1 bt110.2.1 bt110.2.2.1 bt119.1 bt119.2.1 bt119.2.2 bt127.1 bt127.2.1 bt127.2.2.1) else (laws_FnExactMergeCircuit.j0 k bt110.2.2.2 bt127.2.2.2 true a0_0 l0_1 l0_2 bt110.1 bt110.2.1 bt110.2.2.1 bt119.1 bt119.2.1 bt119.2.2 bt127.1 bt127.2.1 bt127.2.2.1))))))))) = some r := h
  clear h
  replace H := Option.bind_eq_some_iff.mp H
  obtain ⟨t102, A20, H⟩ := H
  replace H : (if t102 < 0 then (some true) else ((laws_toCircuit.f k a0_0 l0_1 l0_2).bind fun bt103 => ((spec_MergeCircuit.f k bt103.1 bt103.2.1 bt103.2.2).bind fun bt110 => ((laws_toCircuit.f k a0_0 l0_1 l0_2).bind fun bt119 => ((impl_MergeCircuit.f k bt119.1 bt119.2.1 bt119.2.2).bind fun bt127 => ((laws_eqCircuit.f k bt127.1 bt127.2.1 bt127.2.2.1 bt110.1 bt110.2.1 bt110.2.2.1).bind fun t136 => (if t136 = true then (laws_FnExactMergeCircuit.j0 k bt110.2.2.2 bt127.2.2.2 (bt127.2.2.2 != bt110.2.2.2) a0_0 l0_1 l0_2 bt110.1 bt110.2.1 bt110.2.2.1 bt119.1 bt119.2.1 bt119.2.2 bt127.1 bt127.2.1 bt127.2.2.1) else (laws_FnExactMergeCircuit.j0 k bt110.2.2.2 bt127.2.2.2 true a0_0 l0_1 l0_2 bt110.1 bt110.2.1 bt110.2.2.1 bt119.1 bt119.2.1 bt119.2.2 bt127.1 bt127.2.1 bt127.2.2.1)))))))) = some r := H
  have A2 := Aside0.mk A20
  clear A20
  by_cases c3 : t102 < 0
  · rw [if_pos c3] at H
    have c3b0 : decide (t102 < 0) = true := decide_eq_true c3
    clear c3
    obtain rfl := Option.some.inj H
    go_enter Try.func4, Try.ntmps4
    go_wp2_with (first | ((with_reducible refine gate_dst (N := 1) rfl ?_); refine box_event ?hg (N := 1) ?hd (cs := #[.int .i8 a0_0, .slice A0_1 l0_1.length c0_1, .slice A0_2 l0_2.length c0_2]) (t := 26) ?hr ?_; (case hd => rfl); (case hg => rfl); (case hr => first | (go_simp; done) | (go_simp; rfl)); intro gb101 hg w4 hbox hb; have n0_ := Aside0.mk (below_step (by repeat (first | (with_reducible first | exact HB.out | apply below_alloc | apply pw_below_drewN | apply below_drew1) | exact HB.out)) hb); have n1_ := Aside0.mk (hbox); have n2_ := Aside0.mk ((by rw [hg]; exact (below_size (by repeat (first | (with_reducible first | exact HB.out | apply below_alloc | apply pw_below_drewN | apply below_drew1) | exact HB.out))) : w.heap.size ≤ gb101)); have n3_ := Aside0.mk ((by rw [hg]; exact (below_size (by repeat (first | (with_reducible first | exact HB.out | apply below_alloc | apply pw_below_drewN | apply below_drew1) | exact HB.out))) : w.heap.size ≤ gb101)); clear HB; have HB := n0_; have BK101 := n1_; have GW101 := n2_; have GE101 := n3_; clear n0_ n1_ n2_ n3_; clear hb hbox hg; have hcz5_0 : w4.cell? ⟨gb101, 0, none⟩ = some (.int .i8 a0_0) := (blk_cell BK101.out 0).trans rfl; have hcz5_1 : w4.cell? ⟨gb101, 1, none⟩ = some (.slice A0_1 l0_1.length c0_1) := (blk_cell BK101.out 1).trans rfl; have hcz5_2 : w4.cell? ⟨gb101, 2, none⟩ = some (.slice A0_2 l0_2.length c0_2) := (blk_cell BK101.out 2).trans rfl; have hfz5_0 := blk_frozen BK101.out 0; have hfz5_1 := blk_frozen BK101.out 1; have hfz5_2 := blk_frozen BK101.out 2) | ((with_reducible refine gate_callee (f := 9) rfl ?_); refine goesL_ (some 16) rfl rfl Try.func9 (by kernel_rfl) rfl #[.agg #[.int .i8 a0_0, .slice A0_1 l0_1.length c0_1, .slice A0_2 l0_2.length c0_2], .int .i64 1048576] rfl (by (try simp only [List.map_toArray, List.map_cons, List.map_nil]); first | done | rfl | (simp only [List.length_drop, List.length_take]; rfl)) ?_; (with_reducible refine (laws_szCircuit.calls a0_0 _ _ l0_1 _ _ l0_2 1048576 t102 _ ?side1 ?side2 ?side3 ?side4 A2.out).mono ?_); (case side1 => repeat (first | exact (Kd.C_below HR0_1.out HB.out) | (with_reducible refine Kd.C_alloc ?_ _) | (with_reducible refine Kd.C_drewN ?_ _) | (with_reducible refine Kd.C_drew ?_))); (case side2 => exact HC0_1.out); (case side3 => repeat (first | exact (Kd.C_below HR0_2.out HB.out) | (with_reducible refine Kd.C_alloc ?_ _) | (with_reducible refine Kd.C_drewN ?_ _) | (with_reducible refine Kd.C_drew ?_))); (case side4 => exact HC0_2.out); rintro e w6 ⟨rfl, hb⟩; refine ⟨_, rfl, ?_⟩; have n0_ := Aside0.mk (blk_below (g := gb101) (o := .cells #[.int .i8 a0_0, .slice A0_1 l0_1.length c0_1, .slice A0_2 l0_2.length c0_2] 26 (0, 0)) (by (with_reducible repeat (first | refine blk_drewN ?_ _ | refine blk_drew ?_ | refine blk_alloc ?_ _)); exact BK101.out) hb); have n1_ := Aside0.mk (below_step (by repeat (first | (with_reducible first | exact HB.out | apply below_alloc | apply pw_below_drewN | apply below_drew1 | refine below_set ?_ GE101.out) | exact HB.out)) hb); clear BK101; clear HB; have BK101 := n0_; have HB := n1_; clear n0_ n1_; (try clear hb); (try clear hb2); (try clear hk); (try clear hi)))
    go_ret
    exact ⟨by first | rfl | (simp [errW_none, errW_some] <;> rfl) | (simp [*, errW_none, errW_some] <;> rfl), by repeat (first | (with_reducible first | exact HB.out | apply below_alloc | apply pw_below_drewN | apply below_drew1 | refine below_set ?_ GE101.out) | exact HB.out)⟩
  · rw [if_neg c3] at H
    have c3b0 : decide (t102 < 0) = false := decide_eq_false c3
    clear c3
    replace H := Option.bind_eq_some_iff.mp H
    obtain ⟨⟨t103, t104, t107⟩, A70, H⟩ := H
    replace H : ((spec_MergeCircuit.f k t103 t104 t107).bind fun bt110 => ((laws_toCircuit.f k a0_0 l0_1 l0_2).bind fun bt119 => ((impl_MergeCircuit.f k bt119.1 bt119.2.1 bt119.2.2).bind fun bt127 => ((laws_eqCircuit.f k bt127.1 bt127.2.1 bt127.2.2.1 bt110.1 bt110.2.1 bt110.2.2.1).bind fun t136 => (if t136 = true then (laws_FnExactMergeCircuit.j0 k bt110.2.2.2 bt127.2.2.2 (bt127.2.2.2 != bt110.2.2.2) a0_0 l0_1 l0_2 bt110.1 bt110.2.1 bt110.2.2.1 bt119.1 bt119.2.1 bt119.2.2 bt127.1 bt127.2.1 bt127.2.2.1) else (laws_FnExactMergeCircuit.j0 k bt110.2.2.2 bt127.2.2.2 true a0_0 l0_1 l0_2 bt110.1 bt110.2.1 bt110.2.2.1 bt119.1 bt119.2.1 bt119.2.2 bt127.1 bt127.2.1 bt127.2.2.1)))))) = some r := H
    have A7 := Aside0.mk A70
    clear A70
    replace H := Option.bind_eq_some_iff.mp H
    obtain ⟨⟨t110, t111, t114, t117⟩, A80, H⟩ := H
    replace H : ((laws_toCircuit.f k a0_0 l0_1 l0_2).bind fun bt119 => ((impl_MergeCircuit.f k bt119.1 bt119.2.1 bt119.2.2).bind fun bt127 => ((laws_eqCircuit.f k bt127.1 bt127.2.1 bt127.2.2.1 t110 t111 t114).bind fun t136 => (if t136 = true then (laws_FnExactMergeCircuit.j0 k t117 bt127.2.2.2 (bt127.2.2.2 != t117) a0_0 l0_1 l0_2 t110 t111 t114 bt119.1 bt119.2.1 bt119.2.2 bt127.1 bt127.2.1 bt127.2.2.1) else (laws_FnExactMergeCircuit.j0 k t117 bt127.2.2.2 true a0_0 l0_1 l0_2 t110 t111 t114 bt119.1 bt119.2.1 bt119.2.2 bt127.1 bt127.2.1 bt127.2.2.1))))) = some r := H
    have A8 := Aside0.mk A80
    clear A80
    replace H := Option.bind_eq_some_iff.mp H
    obtain ⟨⟨t119, t120, t123⟩, A90, H⟩ := H
    replace H : ((impl_MergeCircuit.f k t119 t120 t123).bind fun bt127 => ((laws_eqCircuit.f k bt127.1 bt127.2.1 bt127.2.2.1 t110 t111 t114).bind fun t136 => (if t136 = true then (laws_FnExactMergeCircuit.j0 k t117 bt127.2.2.2 (bt127.2.2.2 != t117) a0_0 l0_1 l0_2 t110 t111 t114 t119 t120 t123 bt127.1 bt127.2.1 bt127.2.2.1) else (laws_FnExactMergeCircuit.j0 k t117 bt127.2.2.2 true a0_0 l0_1 l0_2 t110 t111 t114 t119 t120 t123 bt127.1 bt127.2.1 bt127.2.2.1)))) = some r := H
    have A9 := Aside0.mk A90
    clear A90
    replace H := Option.bind_eq_some_iff.mp H
    obtain ⟨⟨t127, t128, t131, t134⟩, A100, H⟩ := H
    replace H : ((laws_eqCircuit.f k t127 t128 t131 t110 t111 t114).bind fun t136 => (if t136 = true then (laws_FnExactMergeCircuit.j0 k t117 t134 (t134 != t117) a0_0 l0_1 l0_2 t110 t111 t114 t119 t120 t123 t127 t128 t131) else (laws_FnExactMergeCircuit.j0 k t117 t134 true a0_0 l0_1 l0_2 t110 t111 t114 t119 t120 t123 t127 t128 t131))) = some r := H
    have A10 := Aside0.mk A100
    clear A100
    have HC11 := Aside0.mk H
    clear H
    go_enter Try.func4, Try.ntmps4
    go_upto_region 8 with (first | ((with_reducible refine gate_dst (N := 1) rfl ?_); refine box_event ?hg (N := 1) ?hd (cs := #[.int .i8 a0_0, .slice A0_1 l0_1.length c0_1, .slice A0_2 l0_2.length c0_2]) (t := 26) ?hr ?_; (case hd => rfl); (case hg => rfl); (case hr => first | (go_simp; done) | (go_simp; rfl)); intro gb101 hg w12 hbox hb; have n0_ := Aside0.mk (below_step (by repeat (first | (with_reducible first | exact HB.out | apply below_alloc | apply pw_below_drewN | apply below_drew1) | exact HB.out)) hb); have n1_ := Aside0.mk (hbox); have n2_ := Aside0.mk ((by rw [hg]; exact (below_size (by repeat (first | (with_reducible first | exact HB.out | apply below_alloc | apply pw_below_drewN | apply below_drew1) | exact HB.out))) : w.heap.size ≤ gb101)); have n3_ := Aside0.mk ((by rw [hg]; exact (below_size (by repeat (first | (with_reducible first | exact HB.out | apply below_alloc | apply pw_below_drewN | apply below_drew1) | exact HB.out))) : w.heap.size ≤ gb101)); clear HB; have HB := n0_; have BK101 := n1_; have GW101 := n2_; have GE101 := n3_; clear n0_ n1_ n2_ n3_; clear hb hbox hg; have hcz13_0 : w12.cell? ⟨gb101, 0, none⟩ = some (.int .i8 a0_0) := (blk_cell BK101.out 0).trans rfl; have hcz13_1 : w12.cell? ⟨gb101, 1, none⟩ = some (.slice A0_1 l0_1.length c0_1) := (blk_cell BK101.out 1).trans rfl; have hcz13_2 : w12.cell? ⟨gb101, 2, none⟩ = some (.slice A0_2 l0_2.length c0_2) := (blk_cell BK101.out 2).trans rfl; have hfz13_0 := blk_frozen BK101.out 0; have hfz13_1 := blk_frozen BK101.out 1; have hfz13_2 := blk_frozen BK101.out 2) | ((with_reducible refine gate_callee (f := 9) rfl ?_); refine goesL_ (some 16) rfl rfl Try.func9 (by kernel_rfl) rfl #[.agg #[.int .i8 a0_0, .slice A0_1 l0_1.length c0_1, .slice A0_2 l0_2.length c0_2], .int .i64 1048576] rfl (by (try simp only [List.map_toArray, List.map_cons, List.map_nil]); first | done | rfl | (simp only [List.length_drop, List.length_take]; rfl)) ?_; (with_reducible refine (laws_szCircuit.calls a0_0 _ _ l0_1 _ _ l0_2 1048576 t102 _ ?side1 ?side2 ?side3 ?side4 A2.out).mono ?_); (case side1 => repeat (first | exact (Kd.C_below HR0_1.out HB.out) | (with_reducible refine Kd.C_alloc ?_ _) | (with_reducible refine Kd.C_drewN ?_ _) | (with_reducible refine Kd.C_drew ?_))); (case side2 => exact HC0_1.out); (case side3 => repeat (first | exact (Kd.C_below HR0_2.out HB.out) | (with_reducible refine Kd.C_alloc ?_ _) | (with_reducible refine Kd.C_drewN ?_ _) | (with_reducible refine Kd.C_drew ?_))); (case side4 => exact HC0_2.out); rintro e w14 ⟨rfl, hb⟩; refine ⟨_, rfl, ?_⟩; have n0_ := Aside0.mk (blk_below (g := gb101) (o := .cells #[.int .i8 a0_0, .slice A0_1 l0_1.length c0_1, .slice A0_2 l0_2.length c0_2] 26 (0, 0)) (by (with_reducible repeat (first | refine blk_drewN ?_ _ | refine blk_drew ?_ | refine blk_alloc ?_ _)); exact BK101.out) hb); have n1_ := Aside0.mk (below_step (by repeat (first | (with_reducible first | exact HB.out | apply below_alloc | apply pw_below_drewN | apply below_drew1 | refine below_set ?_ GE101.out) | exact HB.out)) hb); clear BK101; clear HB; have BK101 := n0_; have HB := n1_; clear n0_ n1_; (try clear hb); (try clear hb2); (try clear hk); (try clear hi); have hcz15_0 : w14.cell? ⟨gb101, 0, none⟩ = some (.int .i8 a0_0) := (blk_cell BK101.out 0).trans rfl; have hcz15_1 : w14.cell? ⟨gb101, 1, none⟩ = some (.slice A0_1 l0_1.length c0_1) := (blk_cell BK101.out 1).trans rfl; have hcz15_2 : w14.cell? ⟨gb101, 2, none⟩ = some (.slice A0_2 l0_2.length c0_2) := (blk_cell BK101.out 2).trans rfl; have hfz15_0 := blk_frozen BK101.out 0; have hfz15_1 := blk_frozen BK101.out 1; have hfz15_2 := blk_frozen BK101.out 2) | ((with_reducible refine gate_callee (f := 11) rfl ?_); refine goesL_ (some 21) rfl rfl Try.func11 (by kernel_rfl) rfl #[.agg #[.int .i8 a0_0, .slice A0_1 l0_1.length c0_1, .slice A0_2 l0_2.length c0_2]] rfl (by (try simp only [List.map_toArray, List.map_cons, List.map_nil]); first | done | rfl | (simp only [List.length_drop, List.length_take]; rfl)) ?_; (with_reducible refine (laws_toCircuit.calls k a0_0 _ _ l0_1 _ _ l0_2 t103 t104 t107 _ ?side1 ?side2 ?side3 ?side4 A7.out).mono ?_); (case side1 => repeat (first | exact (Kd.C_below HR0_1.out HB.out) | (with_reducible refine Kd.C_alloc ?_ _) | (with_reducible refine Kd.C_drewN ?_ _) | (with_reducible refine Kd.C_drew ?_))); (case side2 => exact HC0_1.out); (case side3 => repeat (first | exact (Kd.C_below HR0_2.out HB.out) | (with_reducible refine Kd.C_alloc ?_ _) | (with_reducible refine Kd.C_drewN ?_ _) | (with_reducible refine Kd.C_drew ?_))); (case side4 => exact HC0_2.out); rintro e w16 ⟨v105, v108, rfl, ho0, ho1, hb⟩; refine ⟨_, rfl, ?_⟩; have n0_ := Aside0.mk (Kd.R_lower ho0 (below_size (by repeat (first | (with_reducible first | exact HB.out | apply below_alloc | apply pw_below_drewN | apply below_drew1 | refine below_set ?_ GE101.out) | exact HB.out)))); have n1_ := Aside0.mk (Kd.R_lower ho1 (below_size (by repeat (first | (with_reducible first | exact HB.out | apply below_alloc | apply pw_below_drewN | apply below_drew1 | refine below_set ?_ GE101.out) | exact HB.out)))); have n2_ := Aside0.mk (blk_below (g := gb101) (o := .cells #[.int .i8 a0_0, .slice A0_1 l0_1.length c0_1, .slice A0_2 l0_2.length c0_2] 26 (0, 0)) (by (with_reducible repeat (first | refine blk_drewN ?_ _ | refine blk_drew ?_ | refine blk_alloc ?_ _)); exact BK101.out) hb); have n3_ := Aside0.mk (below_step (by repeat (first | (with_reducible first | exact HB.out | apply below_alloc | apply pw_below_drewN | apply below_drew1 | refine below_set ?_ GE101.out) | exact HB.out)) hb); clear BK101; clear HB; have HO106 := n0_; have HO109 := n1_; have BK101 := n2_; have HB := n3_; clear n0_ n1_ n2_ n3_; (try clear hb); (try clear hb2); (try clear hk); (try clear hi); (try clear ho0); (try clear ho1); obtain ⟨Ao17, co17, eo17⟩ := Kd.R_slice HO106.out; subst eo17; obtain ⟨Ao18, co18, eo18⟩ := Kd.R_slice HO109.out; subst eo18) | ((with_reducible refine gate_callee (f := 16) rfl ?_); refine goesL_ (some 22) rfl rfl Try.func16 (by kernel_rfl) rfl #[.agg #[.int .i8 t103, .slice Ao17 t104.length co17, .slice Ao18 t107.length co18]] rfl (by (try simp only [List.map_toArray, List.map_cons, List.map_nil]); first | done | rfl | (simp only [List.length_drop, List.length_take]; rfl)) ?_; (with_reducible refine (spec_MergeCircuit.calls k t103 _ _ t104 _ _ t107 t110 t111 t114 t117 _ ?side1 ?side2 ?side3 ?side4 A8.out).mono ?_); (case side1 => repeat (first | exact (Kd.R_reads' HO106.out).2.2 | (with_reducible refine Kd.C_alloc ?_ _) | (with_reducible refine Kd.C_drewN ?_ _) | (with_reducible refine Kd.C_drew ?_))); (case side2 => exact (Kd.R_reads' HO106.out).2.1); (case side3 => repeat (first | exact (Kd.R_reads' HO109.out).2.2 | (with_reducible refine Kd.C_alloc ?_ _) | (with_reducible refine Kd.C_drewN ?_ _) | (with_reducible refine Kd.C_drew ?_))); (case side4 => exact (Kd.R_reads' HO109.out).2.1); rintro e w19 ⟨v112, v115, rfl, ho0, ho1, hb⟩; refine ⟨_, rfl, ?_⟩; have n0_ := Aside0.mk (Kd.R_elder' (by (with_reducible repeat (first | apply Kd.R_alloc | apply Kd.R_drewN | apply Kd.R_drew)); exact HO106.out) (Kd.R_base ho0) hb); have n1_ := Aside0.mk (Kd.R_elder' (by (with_reducible repeat (first | apply Kd.R_alloc | apply Kd.R_drewN | apply Kd.R_drew)); exact HO109.out) (Kd.R_base ho1) hb); have n2_ := Aside0.mk (Kd.R_lower (Kd.R_new' ho0 (Kd.R_lt (by (with_reducible repeat (first | apply Kd.R_alloc | apply Kd.R_drewN | apply Kd.R_drew)); exact HO106.out))) (below_size (by repeat (first | (with_reducible first | exact HB.out | apply below_alloc | apply pw_below_drewN | apply below_drew1 | refine below_set ?_ GE101.out) | exact HB.out)))); have n3_ := Aside0.mk (Kd.R_lower (Kd.R_new' ho1 (Kd.R_lt (by (with_reducible repeat (first | apply Kd.R_alloc | apply Kd.R_drewN | apply Kd.R_drew)); exact HO109.out))) (below_size (by repeat (first | (with_reducible first | exact HB.out | apply below_alloc | apply pw_below_drewN | apply below_drew1 | refine below_set ?_ GE101.out) | exact HB.out)))); have n4_ := Aside0.mk (blk_below (g := gb101) (o := .cells #[.int .i8 a0_0, .slice A0_1 l0_1.length c0_1, .slice A0_2 l0_2.length c0_2] 26 (0, 0)) (by (with_reducible repeat (first | refine blk_drewN ?_ _ | refine blk_drew ?_ | refine blk_alloc ?_ _)); exact BK101.out) hb); have n5_ := Aside0.mk (below_step (by repeat (first | (with_reducible first | exact HB.out | apply below_alloc | apply pw_below_drewN | apply below_drew1 | refine below_set ?_ GE101.out) | exact HB.out)) hb); clear HO106; clear HO109; clear BK101; clear HB; have HO106 := n0_; have HO109 := n1_; have HO113 := n2_; have HO116 := n3_; have BK101 := n4_; have HB := n5_; clear n0_ n1_ n2_ n3_ n4_ n5_; (try clear hb); (try clear hb2); (try clear hk); (try clear hi); (try clear ho0); (try clear ho1)) | ((with_reducible refine gate_dst (N := 4) rfl ?_); refine box_event ?hg (N := 4) ?hd (cs := #[.int .i8 0, .slice none 0 0, .slice none 0 0]) (t := 30) ?hr ?_; (case hd => rfl); (case hg => rfl); (case hr => first | (go_simp; done) | (go_simp; rfl)); intro gb118 hg w20 hbox hb; have n0_ := Aside0.mk (Kd.R_below (by (with_reducible repeat (first | apply Kd.R_alloc | apply Kd.R_drewN | apply Kd.R_drew)); exact HO106.out) hb); have n1_ := Aside0.mk (Kd.R_below (by (with_reducible repeat (first | apply Kd.R_alloc | apply Kd.R_drewN | apply Kd.R_drew)); exact HO109.out) hb); have n2_ := Aside0.mk (Kd.R_below (by (with_reducible repeat (first | apply Kd.R_alloc | apply Kd.R_drewN | apply Kd.R_drew)); exact HO113.out) hb); have n3_ := Aside0.mk (Kd.R_below (by (with_reducible repeat (first | apply Kd.R_alloc | apply Kd.R_drewN | apply Kd.R_drew)); exact HO116.out) hb); have n4_ := Aside0.mk (blk_below (g := gb101) (o := .cells #[.int .i8 a0_0, .slice A0_1 l0_1.length c0_1, .slice A0_2 l0_2.length c0_2] 26 (0, 0)) (by (with_reducible repeat (first | refine blk_drewN ?_ _ | refine blk_drew ?_ | refine blk_alloc ?_ _)); exact BK101.out) hb); have n5_ := Aside0.mk (below_step (by repeat (first | (with_reducible first | exact HB.out | apply below_alloc | apply pw_below_drewN | apply below_drew1 | refine below_set ?_ GE101.out) | exact HB.out)) hb); have n6_ := Aside0.mk (hbox); have n7_ := Aside0.mk ((by rw [hg]; exact (below_size (by repeat (first | (with_reducible first | exact HB.out | apply below_alloc | apply pw_below_drewN | apply below_drew1 | refine below_set ?_ GE101.out) | exact HB.out))) : w.heap.size ≤ gb118)); have n8_ := Aside0.mk ((by rw [hg]; exact (below_size (by repeat (first | (with_reducible first | exact HB.out | apply below_alloc | apply pw_below_drewN | apply below_drew1 | refine below_set ?_ GE101.out) | exact HB.out))) : w.heap.size ≤ gb118)); have n9_ := Aside0.mk ((by rw [hg]; exact Nat.ne_of_lt (blk_lt (g := gb101) (o := .cells #[.int .i8 a0_0, .slice A0_1 l0_1.length c0_1, .slice A0_2 l0_2.length c0_2] 26 (0, 0)) (by (with_reducible repeat (first | refine blk_drewN ?_ _ | refine blk_drew ?_ | refine blk_alloc ?_ _)); exact BK101.out)) : gb101 ≠ gb118)); have n10_ := Aside0.mk ((by rw [hg]; exact Nat.ne_of_gt (blk_lt (g := gb101) (o := .cells #[.int .i8 a0_0, .slice A0_1 l0_1.length c0_1, .slice A0_2 l0_2.length c0_2] 26 (0, 0)) (by (with_reducible repeat (first | refine blk_drewN ?_ _ | refine blk_drew ?_ | refine blk_alloc ?_ _)); exact BK101.out)) : gb118 ≠ gb101)); clear HO106; clear HO109; clear HO113; clear HO116; clear BK101; clear HB; have HO106 := n0_; have HO109 := n1_; have HO113 := n2_; have HO116 := n3_; have BK101 := n4_; have HB := n5_; have BK118 := n6_; have GW118 := n7_; have GE118 := n8_; have NB101_118 := n9_; have NB118_101 := n10_; clear n0_ n1_ n2_ n3_ n4_ n5_ n6_ n7_ n8_ n9_ n10_; clear hb hbox hg; have hnb21 := NB118_101.out; have hnc21 := NB101_118.out; have hcz22_0 : w20.cell? ⟨gb118, 0, none⟩ = some (.int .i8 0) := (blk_cell BK118.out 0).trans rfl; have hcz22_1 : w20.cell? ⟨gb118, 1, none⟩ = some (.slice none 0 0) := (blk_cell BK118.out 1).trans rfl; have hcz22_2 : w20.cell? ⟨gb118, 2, none⟩ = some (.slice none 0 0) := (blk_cell BK118.out 2).trans rfl; have hfz22_0 := blk_frozen BK118.out 0; have hfz22_1 := blk_frozen BK118.out 1; have hfz22_2 := blk_frozen BK118.out 2; obtain ⟨Ao23, co23, eo23⟩ := Kd.R_slice HO113.out; subst eo23; obtain ⟨Ao24, co24, eo24⟩ := Kd.R_slice HO116.out; subst eo24; have hcz25_0 : w20.cell? ⟨gb101, 0, none⟩ = some (.int .i8 a0_0) := (blk_cell BK101.out 0).trans rfl; have hcz25_1 : w20.cell? ⟨gb101, 1, none⟩ = some (.slice A0_1 l0_1.length c0_1) := (blk_cell BK101.out 1).trans rfl; have hcz25_2 : w20.cell? ⟨gb101, 2, none⟩ = some (.slice A0_2 l0_2.length c0_2) := (blk_cell BK101.out 2).trans rfl; have hfz25_0 := blk_frozen BK101.out 0; have hfz25_1 := blk_frozen BK101.out 1; have hfz25_2 := blk_frozen BK101.out 2) | ((with_reducible refine gate_callee (f := 11) rfl ?_); refine goesL_ (some 26) rfl rfl Try.func11 (by kernel_rfl) rfl #[.agg #[.int .i8 a0_0, .slice A0_1 l0_1.length c0_1, .slice A0_2 l0_2.length c0_2]] rfl (by (try simp only [List.map_toArray, List.map_cons, List.map_nil]); first | done | rfl | (simp only [List.length_drop, List.length_take]; rfl)) ?_; (with_reducible refine (laws_toCircuit.calls k a0_0 _ _ l0_1 _ _ l0_2 t119 t120 t123 _ ?side1 ?side2 ?side3 ?side4 A9.out).mono ?_); (case side1 => exact Kd.C_below HR0_1.out (by repeat (first | (with_reducible first | exact HB.out | apply below_alloc | apply pw_below_drewN | apply below_drew1 | refine below_set ?_ GE101.out | refine below_set ?_ GE118.out) | exact HB.out))); (case side2 => exact HC0_1.out); (case side3 => exact Kd.C_below HR0_2.out (by repeat (first | (with_reducible first | exact HB.out | apply below_alloc | apply pw_below_drewN | apply below_drew1 | refine below_set ?_ GE101.out | refine below_set ?_ GE118.out) | exact HB.out))); (case side4 => exact HC0_2.out); rintro e w26 ⟨v121, v124, rfl, ho0, ho1, hb⟩; refine ⟨_, rfl, ?_⟩; have n0_ := Aside0.mk (Kd.R_elder' (by (with_reducible repeat (first | apply Kd.R_alloc | apply Kd.R_drewN | apply Kd.R_drew)); exact (Kd.R_mono (Kd.R_far (p := ⟨gb118, 2, none⟩) (Kd.R_far (p := ⟨gb118, 1, none⟩) (Kd.R_far (p := ⟨gb118, 0, none⟩) (Kd.R_types HO106.out BK118.out (by decide)) (fun _ hk => hk.2) (.int .i8 t110)) (fun _ hk => hk.2) (.slice Ao23 t111.length co23)) (fun _ hk => hk.2) (.slice Ao24 t114.length co24)) (fun _ h_ => h_.1))) (Kd.R_base ho0) hb); have n1_ := Aside0.mk (Kd.R_elder' (by (with_reducible repeat (first | apply Kd.R_alloc | apply Kd.R_drewN | apply Kd.R_drew)); exact (Kd.R_mono (Kd.R_far (p := ⟨gb118, 2, none⟩) (Kd.R_far (p := ⟨gb118, 1, none⟩) (Kd.R_far (p := ⟨gb118, 0, none⟩) (Kd.R_types HO109.out BK118.out (by decide)) (fun _ hk => hk.2) (.int .i8 t110)) (fun _ hk => hk.2) (.slice Ao23 t111.length co23)) (fun _ hk => hk.2) (.slice Ao24 t114.length co24)) (fun _ h_ => h_.1))) (Kd.R_base ho1) hb); have n2_ := Aside0.mk (Kd.R_elder' (by (with_reducible repeat (first | apply Kd.R_alloc | apply Kd.R_drewN | apply Kd.R_drew)); exact (Kd.R_mono (Kd.R_far (p := ⟨gb118, 2, none⟩) (Kd.R_far (p := ⟨gb118, 1, none⟩) (Kd.R_far (p := ⟨gb118, 0, none⟩) (Kd.R_types HO113.out BK118.out (by decide)) (fun _ hk => hk.2) (.int .i8 t110)) (fun _ hk => hk.2) (.slice Ao23 t111.length co23)) (fun _ hk => hk.2) (.slice Ao24 t114.length co24)) (fun _ h_ => h_.1))) (Kd.R_base ho0) hb); have n3_ := Aside0.mk (Kd.R_elder' (by (with_reducible repeat (first | apply Kd.R_alloc | apply Kd.R_drewN | apply Kd.R_drew)); exact (Kd.R_mono (Kd.R_far (p := ⟨gb118, 2, none⟩) (Kd.R_far (p := ⟨gb118, 1, none⟩) (Kd.R_far (p := ⟨gb118, 0, none⟩) (Kd.R_types HO116.out BK118.out (by decide)) (fun _ hk => hk.2) (.int .i8 t110)) (fun _ hk => hk.2) (.slice Ao23 t111.length co23)) (fun _ hk => hk.2) (.slice Ao24 t114.length co24)) (fun _ h_ => h_.1))) (Kd.R_base ho1) hb); have n4_ := Aside0.mk (Kd.R_lower (Kd.R_new' (Kd.R_new' ho0 (Kd.R_lt (by (with_reducible repeat (first | apply Kd.R_alloc | apply Kd.R_drewN | apply Kd.R_drew)); exact (Kd.R_mono (Kd.R_far (p := ⟨gb118, 2, none⟩) (Kd.R_far (p := ⟨gb118, 1, none⟩) (Kd.R_far (p := ⟨gb118, 0, none⟩) (Kd.R_types HO106.out BK118.out (by decide)) (fun _ hk => hk.2) (.int .i8 t110)) (fun _ hk => hk.2) (.slice Ao23 t111.length co23)) (fun _ hk => hk.2) (.slice Ao24 t114.length co24)) (fun _ h_ => h_.1))))) (Kd.R_lt (by (with_reducible repeat (first | apply Kd.R_alloc | apply Kd.R_drewN | apply Kd.R_drew)); exact (Kd.R_mono (Kd.R_far (p := ⟨gb118, 2, none⟩) (Kd.R_far (p := ⟨gb118, 1, none⟩) (Kd.R_far (p := ⟨gb118, 0, none⟩) (Kd.R_types HO113.out BK118.out (by decide)) (fun _ hk => hk.2) (.int .i8 t110)) (fun _ hk => hk.2) (.slice Ao23 t111.length co23)) (fun _ hk => hk.2) (.slice Ao24 t114.length co24)) (fun _ h_ => h_.1))))) (below_size (by repeat (first | (with_reducible first | exact HB.out | apply below_alloc | apply pw_below_drewN | apply below_drew1 | refine below_set ?_ GE101.out | refine below_set ?_ GE118.out) | exact HB.out)))); have n5_ := Aside0.mk (Kd.R_lower (Kd.R_new' (Kd.R_new' ho1 (Kd.R_lt (by (with_reducible repeat (first | apply Kd.R_alloc | apply Kd.R_drewN | apply Kd.R_drew)); exact (Kd.R_mono (Kd.R_far (p := ⟨gb118, 2, none⟩) (Kd.R_far (p := ⟨gb118, 1, none⟩) (Kd.R_far (p := ⟨gb118, 0, none⟩) (Kd.R_types HO109.out BK118.out (by decide)) (fun _ hk => hk.2) (.int .i8 t110)) (fun _ hk => hk.2) (.slice Ao23 t111.length co23)) (fun _ hk => hk.2) (.slice Ao24 t114.length co24)) (fun _ h_ => h_.1))))) (Kd.R_lt (by (with_reducible repeat (first | apply Kd.R_alloc | apply Kd.R_drewN | apply Kd.R_drew)); exact (Kd.R_mono (Kd.R_far (p := ⟨gb118, 2, none⟩) (Kd.R_far (p := ⟨gb118, 1, none⟩) (Kd.R_far (p := ⟨gb118, 0, none⟩) (Kd.R_types HO116.out BK118.out (by decide)) (fun _ hk => hk.2) (.int .i8 t110)) (fun _ hk => hk.2) (.slice Ao23 t111.length co23)) (fun _ hk => hk.2) (.slice Ao24 t114.length co24)) (fun _ h_ => h_.1))))) (below_size (by repeat (first | (with_reducible first | exact HB.out | apply below_alloc | apply pw_below_drewN | apply below_drew1 | refine below_set ?_ GE101.out | refine below_set ?_ GE118.out) | exact HB.out)))); have n6_ := Aside0.mk (blk_below (g := gb101) (o := .cells #[.int .i8 a0_0, .slice A0_1 l0_1.length c0_1, .slice A0_2 l0_2.length c0_2] 26 (0, 0)) (by (with_reducible repeat (first | refine blk_drewN ?_ _ | refine blk_drew ?_ | refine blk_alloc ?_ _)); refine blk_far ?_ NB101_118.out _; (with_reducible repeat (first | refine blk_drewN ?_ _ | refine blk_drew ?_ | refine blk_alloc ?_ _)); refine blk_far ?_ NB101_118.out _; (with_reducible repeat (first | refine blk_drewN ?_ _ | refine blk_drew ?_ | refine blk_alloc ?_ _)); refine blk_far ?_ NB101_118.out _; (with_reducible repeat (first | refine blk_drewN ?_ _ | refine blk_drew ?_ | refine blk_alloc ?_ _)); exact BK101.out) hb); have n7_ := Aside0.mk (blk_below (g := gb118) (o := .cells #[.int .i8 t110, .slice Ao23 t111.length co23, .slice Ao24 t114.length co24] 30 (0, 0)) (by (with_reducible repeat (first | refine blk_drewN ?_ _ | refine blk_drew ?_ | refine blk_alloc ?_ _)); refine blk_put (cs := #[.int .i8 t110, .slice Ao23 t111.length co23, .slice none 0 0]) ?_ 2 _ rfl; (with_reducible repeat (first | refine blk_drewN ?_ _ | refine blk_drew ?_ | refine blk_alloc ?_ _)); refine blk_put (cs := #[.int .i8 t110, .slice none 0 0, .slice none 0 0]) ?_ 1 _ rfl; (with_reducible repeat (first | refine blk_drewN ?_ _ | refine blk_drew ?_ | refine blk_alloc ?_ _)); refine blk_put (cs := #[.int .i8 0, .slice none 0 0, .slice none 0 0]) ?_ 0 _ rfl; (with_reducible repeat (first | refine blk_drewN ?_ _ | refine blk_drew ?_ | refine blk_alloc ?_ _)); exact BK118.out) hb); have n8_ := Aside0.mk (below_step (by repeat (first | (with_reducible first | exact HB.out | apply below_alloc | apply pw_below_drewN | apply below_drew1 | refine below_set ?_ GE101.out | refine below_set ?_ GE118.out) | exact HB.out)) hb); clear HO106; clear HO109; clear HO113; clear HO116; clear BK101; clear BK118; clear HB; have HO106 := n0_; have HO109 := n1_; have HO113 := n2_; have HO116 := n3_; have HO122 := n4_; have HO125 := n5_; have BK101 := n6_; have BK118 := n7_; have HB := n8_; clear n0_ n1_ n2_ n3_ n4_ n5_ n6_ n7_ n8_; (try clear hb); (try clear hb2); (try clear hk); (try clear hi); (try clear ho0); (try clear ho1)) | ((with_reducible refine gate_dst (N := 6) rfl ?_); refine box_event ?hg (N := 6) ?hd (cs := #[.int .i8 0, .slice none 0 0, .slice none 0 0]) (t := 30) ?hr ?_; (case hd => rfl); (case hg => rfl); (case hr => first | (go_simp; done) | (go_simp; rfl)); intro gb126 hg w27 hbox hb; have n0_ := Aside0.mk (Kd.R_below (by (with_reducible repeat (first | apply Kd.R_alloc | apply Kd.R_drewN | apply Kd.R_drew)); exact HO106.out) hb); have n1_ := Aside0.mk (Kd.R_below (by (with_reducible repeat (first | apply Kd.R_alloc | apply Kd.R_drewN | apply Kd.R_drew)); exact HO109.out) hb); have n2_ := Aside0.mk (Kd.R_below (by (with_reducible repeat (first | apply Kd.R_alloc | apply Kd.R_drewN | apply Kd.R_drew)); exact HO113.out) hb); have n3_ := Aside0.mk (Kd.R_below (by (with_reducible repeat (first | apply Kd.R_alloc | apply Kd.R_drewN | apply Kd.R_drew)); exact HO116.out) hb); have n4_ := Aside0.mk (Kd.R_below (by (with_reducible repeat (first | apply Kd.R_alloc | apply Kd.R_drewN | apply Kd.R_drew)); exact HO122.out) hb); have n5_ := Aside0.mk (Kd.R_below (by (with_reducible repeat (first | apply Kd.R_alloc | apply Kd.R_drewN | apply Kd.R_drew)); exact HO125.out) hb); have n6_ := Aside0.mk (blk_below (g := gb101) (o := .cells #[.int .i8 a0_0, .slice A0_1 l0_1.length c0_1, .slice A0_2 l0_2.length c0_2] 26 (0, 0)) (by (with_reducible repeat (first | refine blk_drewN ?_ _ | refine blk_drew ?_ | refine blk_alloc ?_ _)); exact BK101.out) hb); have n7_ := Aside0.mk (blk_below (g := gb118) (o := .cells #[.int .i8 t110, .slice Ao23 t111.length co23, .slice Ao24 t114.length co24] 30 (0, 0)) (by (with_reducible repeat (first | refine blk_drewN ?_ _ | refine blk_drew ?_ | refine blk_alloc ?_ _)); exact BK118.out) hb); have n8_ := Aside0.mk (below_step (by repeat (first | (with_reducible first | exact HB.out | apply below_alloc | apply pw_below_drewN | apply below_drew1 | refine below_set ?_ GE101.out | refine below_set ?_ GE118.out) | exact HB.out)) hb); have n9_ := Aside0.mk (hbox); have n10_ := Aside0.mk ((by rw [hg]; exact (below_size (by repeat (first | (with_reducible first | exact HB.out | apply below_alloc | apply pw_below_drewN | apply below_drew1 | refine below_set ?_ GE101.out | refine below_set ?_ GE118.out) | exact HB.out))) : w.heap.size ≤ gb126)); have n11_ := Aside0.mk ((by rw [hg]; exact (below_size (by repeat (first | (with_reducible first | exact HB.out | apply below_alloc | apply pw_below_drewN | apply below_drew1 | refine below_set ?_ GE101.out | refine below_set ?_ GE118.out) | exact HB.out))) : w.heap.size ≤ gb126)); have n12_ := Aside0.mk ((by rw [hg]; exact Nat.ne_of_lt (blk_lt (g := gb101) (o := .cells #[.int .i8 a0_0, .slice A0_1 l0_1.length c0_1, .slice A0_2 l0_2.length c0_2] 26 (0, 0)) (by (with_reducible repeat (first | refine blk_drewN ?_ _ | refine blk_drew ?_ | refine blk_alloc ?_ _)); exact BK101.out)) : gb101 ≠ gb126)); have n13_ := Aside0.mk ((by rw [hg]; exact Nat.ne_of_gt (blk_lt (g := gb101) (o := .cells #[.int .i8 a0_0, .slice A0_1 l0_1.length c0_1, .slice A0_2 l0_2.length c0_2] 26 (0, 0)) (by (with_reducible repeat (first | refine blk_drewN ?_ _ | refine blk_drew ?_ | refine blk_alloc ?_ _)); exact BK101.out)) : gb126 ≠ gb101)); have n14_ := Aside0.mk ((by rw [hg]; exact Nat.ne_of_lt (blk_lt (g := gb118) (o := .cells #[.int .i8 t110, .slice Ao23 t111.length co23, .slice Ao24 t114.length co24] 30 (0, 0)) (by (with_reducible repeat (first | refine blk_drewN ?_ _ | refine blk_drew ?_ | refine blk_alloc ?_ _)); exact BK118.out)) : gb118 ≠ gb126)); have n15_ := Aside0.mk ((by rw [hg]; exact Nat.ne_of_gt (blk_lt (g := gb118) (o := .cells #[.int .i8 t110, .slice Ao23 t111.length co23, .slice Ao24 t114.length co24] 30 (0, 0)) (by (with_reducible repeat (first | refine blk_drewN ?_ _ | refine blk_drew ?_ | refine blk_alloc ?_ _)); exact BK118.out)) : gb126 ≠ gb118)); clear HO106; clear HO109; clear HO113; clear HO116; clear HO122; clear HO125; clear BK101; clear BK118; clear HB; have HO106 := n0_; have HO109 := n1_; have HO113 := n2_; have HO116 := n3_; have HO122 := n4_; have HO125 := n5_; have BK101 := n6_; have BK118 := n7_; have HB := n8_; have BK126 := n9_; have GW126 := n10_; have GE126 := n11_; have NB101_126 := n12_; have NB126_101 := n13_; have NB118_126 := n14_; have NB126_118 := n15_; clear n0_ n1_ n2_ n3_ n4_ n5_ n6_ n7_ n8_ n9_ n10_ n11_ n12_ n13_ n14_ n15_; clear hb hbox hg; have hnb28 := NB126_101.out; have hnc28 := NB101_126.out; have hnb29 := NB126_118.out; have hnc29 := NB118_126.out; have hcz30_0 : w27.cell? ⟨gb126, 0, none⟩ = some (.int .i8 0) := (blk_cell BK126.out 0).trans rfl; have hcz30_1 : w27.cell? ⟨gb126, 1, none⟩ = some (.slice none 0 0) := (blk_cell BK126.out 1).trans rfl; have hcz30_2 : w27.cell? ⟨gb126, 2, none⟩ = some (.slice none 0 0) := (blk_cell BK126.out 2).trans rfl; have hfz30_0 := blk_frozen BK126.out 0; have hfz30_1 := blk_frozen BK126.out 1; have hfz30_2 := blk_frozen BK126.out 2; obtain ⟨Ao31, co31, eo31⟩ := Kd.R_slice HO122.out; subst eo31; obtain ⟨Ao32, co32, eo32⟩ := Kd.R_slice HO125.out; subst eo32) | ((with_reducible refine gate_callee (f := 17) rfl ?_); refine goesL_ (some 29) rfl rfl Try.func17 (by kernel_rfl) rfl #[.agg #[.int .i8 t119, .slice Ao31 t120.length co31, .slice Ao32 t123.length co32]] rfl (by (try simp only [List.map_toArray, List.map_cons, List.map_nil]); first | done | rfl | (simp only [List.length_drop, List.length_take]; rfl)) ?_; (with_reducible refine (impl_MergeCircuit.calls k t119 _ _ t120 _ _ t123 t127 t128 t131 t134 _ ?side1 ?side2 ?side3 ?side4 A10.out).mono ?_); (case side1 => refine (Kd.R_reads' (e := 68) (base := w.heap.size) (ok := fun k_ => ((True ∧ some k_ ≠ (.slice Ao17 t104.length co17 : Value).ownBlock) ∧ some k_ ≠ (.slice Ao23 t111.length co23 : Value).ownBlock)) (n := t120.length) (c := co31) ?_).2.2; exact (by (with_reducible repeat (first | apply Kd.R_alloc | apply Kd.R_drewN | apply Kd.R_drew)); exact (Kd.R_mono (Kd.R_far (p := ⟨gb126, 2, none⟩) (Kd.R_far (p := ⟨gb126, 1, none⟩) (Kd.R_far (p := ⟨gb126, 0, none⟩) (Kd.R_types HO122.out BK126.out (by decide)) (fun _ hk => hk.2) (.int .i8 t119)) (fun _ hk => hk.2) (.slice Ao31 t120.length co31)) (fun _ hk => hk.2) (.slice Ao32 t123.length co32)) (fun _ h_ => h_.1)))); (case side2 => exact (Kd.R_reads' HO122.out).2.1); (case side3 => refine (Kd.R_reads' (e := 66) (base := w.heap.size) (ok := fun k_ => ((True ∧ some k_ ≠ (.slice Ao18 t107.length co18 : Value).ownBlock) ∧ some k_ ≠ (.slice Ao24 t114.length co24 : Value).ownBlock)) (n := t123.length) (c := co32) ?_).2.2; exact (by (with_reducible repeat (first | apply Kd.R_alloc | apply Kd.R_drewN | apply Kd.R_drew)); exact (Kd.R_mono (Kd.R_far (p := ⟨gb126, 2, none⟩) (Kd.R_far (p := ⟨gb126, 1, none⟩) (Kd.R_far (p := ⟨gb126, 0, none⟩) (Kd.R_types HO125.out BK126.out (by decide)) (fun _ hk => hk.2) (.int .i8 t119)) (fun _ hk => hk.2) (.slice Ao31 t120.length co31)) (fun _ hk => hk.2) (.slice Ao32 t123.length co32)) (fun _ h_ => h_.1)))); (case side4 => exact (Kd.R_reads' HO125.out).2.1); rintro e w33 ⟨v129, v132, rfl, ho0, ho1, hb⟩; refine ⟨_, rfl, ?_⟩; have n0_ := Aside0.mk (Kd.R_elder' (by (with_reducible repeat (first | apply Kd.R_alloc | apply Kd.R_drewN | apply Kd.R_drew)); exact (Kd.R_mono (Kd.R_far (p := ⟨gb126, 2, none⟩) (Kd.R_far (p := ⟨gb126, 1, none⟩) (Kd.R_far (p := ⟨gb126, 0, none⟩) (Kd.R_types HO106.out BK126.out (by decide)) (fun _ hk => hk.2) (.int .i8 t119)) (fun _ hk => hk.2) (.slice Ao31 t120.length co31)) (fun _ hk => hk.2) (.slice Ao32 t123.length co32)) (fun _ h_ => h_.1))) (Kd.R_base ho0) hb); have n1_ := Aside0.mk (Kd.R_elder' (by (with_reducible repeat (first | apply Kd.R_alloc | apply Kd.R_drewN | apply Kd.R_drew)); exact (Kd.R_mono (Kd.R_far (p := ⟨gb126, 2, none⟩) (Kd.R_far (p := ⟨gb126, 1, none⟩) (Kd.R_far (p := ⟨gb126, 0, none⟩) (Kd.R_types HO109.out BK126.out (by decide)) (fun _ hk => hk.2) (.int .i8 t119)) (fun _ hk => hk.2) (.slice Ao31 t120.length co31)) (fun _ hk => hk.2) (.slice Ao32 t123.length co32)) (fun _ h_ => h_.1))) (Kd.R_base ho1) hb); have n2_ := Aside0.mk (Kd.R_elder' (by (with_reducible repeat (first | apply Kd.R_alloc | apply Kd.R_drewN | apply Kd.R_drew)); exact (Kd.R_mono (Kd.R_far (p := ⟨gb126, 2, none⟩) (Kd.R_far (p := ⟨gb126, 1, none⟩) (Kd.R_far (p := ⟨gb126, 0, none⟩) (Kd.R_types HO113.out BK126.out (by decide)) (fun _ hk => hk.2) (.int .i8 t119)) (fun _ hk => hk.2) (.slice Ao31 t120.length co31)) (fun _ hk => hk.2) (.slice Ao32 t123.length co32)) (fun _ h_ => h_.1))) (Kd.R_base ho0) hb); have n3_ := Aside0.mk (Kd.R_elder' (by (with_reducible repeat (first | apply Kd.R_alloc | apply Kd.R_drewN | apply Kd.R_drew)); exact (Kd.R_mono (Kd.R_far (p := ⟨gb126, 2, none⟩) (Kd.R_far (p := ⟨gb126, 1, none⟩) (Kd.R_far (p := ⟨gb126, 0, none⟩) (Kd.R_types HO116.out BK126.out (by decide)) (fun _ hk => hk.2) (.int .i8 t119)) (fun _ hk => hk.2) (.slice Ao31 t120.length co31)) (fun _ hk => hk.2) (.slice Ao32 t123.length co32)) (fun _ h_ => h_.1))) (Kd.R_base ho1) hb); have n4_ := Aside0.mk (Kd.R_elder' (by (with_reducible repeat (first | apply Kd.R_alloc | apply Kd.R_drewN | apply Kd.R_drew)); exact (Kd.R_mono (Kd.R_far (p := ⟨gb126, 2, none⟩) (Kd.R_far (p := ⟨gb126, 1, none⟩) (Kd.R_far (p := ⟨gb126, 0, none⟩) (Kd.R_types HO122.out BK126.out (by decide)) (fun _ hk => hk.2) (.int .i8 t119)) (fun _ hk => hk.2) (.slice Ao31 t120.length co31)) (fun _ hk => hk.2) (.slice Ao32 t123.length co32)) (fun _ h_ => h_.1))) (Kd.R_base ho0) hb); have n5_ := Aside0.mk (Kd.R_elder' (by (with_reducible repeat (first | apply Kd.R_alloc | apply Kd.R_drewN | apply Kd.R_drew)); exact (Kd.R_mono (Kd.R_far (p := ⟨gb126, 2, none⟩) (Kd.R_far (p := ⟨gb126, 1, none⟩) (Kd.R_far (p := ⟨gb126, 0, none⟩) (Kd.R_types HO125.out BK126.out (by decide)) (fun _ hk => hk.2) (.int .i8 t119)) (fun _ hk => hk.2) (.slice Ao31 t120.length co31)) (fun _ hk => hk.2) (.slice Ao32 t123.length co32)) (fun _ h_ => h_.1))) (Kd.R_base ho1) hb); have n6_ := Aside0.mk (Kd.R_lower (Kd.R_new' (Kd.R_new' (Kd.R_new' ho0 (Kd.R_lt (by (with_reducible repeat (first | apply Kd.R_alloc | apply Kd.R_drewN | apply Kd.R_drew)); exact (Kd.R_mono (Kd.R_far (p := ⟨gb126, 2, none⟩) (Kd.R_far (p := ⟨gb126, 1, none⟩) (Kd.R_far (p := ⟨gb126, 0, none⟩) (Kd.R_types HO106.out BK126.out (by decide)) (fun _ hk => hk.2) (.int .i8 t119)) (fun _ hk => hk.2) (.slice Ao31 t120.length co31)) (fun _ hk => hk.2) (.slice Ao32 t123.length co32)) (fun _ h_ => h_.1))))) (Kd.R_lt (by (with_reducible repeat (first | apply Kd.R_alloc | apply Kd.R_drewN | apply Kd.R_drew)); exact (Kd.R_mono (Kd.R_far (p := ⟨gb126, 2, none⟩) (Kd.R_far (p := ⟨gb126, 1, none⟩) (Kd.R_far (p := ⟨gb126, 0, none⟩) (Kd.R_types HO113.out BK126.out (by decide)) (fun _ hk => hk.2) (.int .i8 t119)) (fun _ hk => hk.2) (.slice Ao31 t120.length co31)) (fun _ hk => hk.2) (.slice Ao32 t123.length co32)) (fun _ h_ => h_.1))))) (Kd.R_lt (by (with_reducible repeat (first | apply Kd.R_alloc | apply Kd.R_drewN | apply Kd.R_drew)); exact (Kd.R_mono (Kd.R_far (p := ⟨gb126, 2, none⟩) (Kd.R_far (p := ⟨gb126, 1, none⟩) (Kd.R_far (p := ⟨gb126, 0, none⟩) (Kd.R_types HO122.out BK126.out (by decide)) (fun _ hk => hk.2) (.int .i8 t119)) (fun _ hk => hk.2) (.slice Ao31 t120.length co31)) (fun _ hk => hk.2) (.slice Ao32 t123.length co32)) (fun _ h_ => h_.1))))) (below_size (by repeat (first | (with_reducible first | exact HB.out | apply below_alloc | apply pw_below_drewN | apply below_drew1 | refine below_set ?_ GE101.out | refine below_set ?_ GE118.out | refine below_set ?_ GE126.out) | exact HB.out)))); have n7_ := Aside0.mk (Kd.R_lower (Kd.R_new' (Kd.R_new' (Kd.R_new' ho1 (Kd.R_lt (by (with_reducible repeat (first | apply Kd.R_alloc | apply Kd.R_drewN | apply Kd.R_drew)); exact (Kd.R_mono (Kd.R_far (p := ⟨gb126, 2, none⟩) (Kd.R_far (p := ⟨gb126, 1, none⟩) (Kd.R_far (p := ⟨gb126, 0, none⟩) (Kd.R_types HO109.out BK126.out (by decide)) (fun _ hk => hk.2) (.int .i8 t119)) (fun _ hk => hk.2) (.slice Ao31 t120.length co31)) (fun _ hk => hk.2) (.slice Ao32 t123.length co32)) (fun _ h_ => h_.1))))) (Kd.R_lt (by (with_reducible repeat (first | apply Kd.R_alloc | apply Kd.R_drewN | apply Kd.R_drew)); exact (Kd.R_mono (Kd.R_far (p := ⟨gb126, 2, none⟩) (Kd.R_far (p := ⟨gb126, 1, none⟩) (Kd.R_far (p := ⟨gb126, 0, none⟩) (Kd.R_types HO116.out BK126.out (by decide)) (fun _ hk => hk.2) (.int .i8 t119)) (fun _ hk => hk.2) (.slice Ao31 t120.length co31)) (fun _ hk => hk.2) (.slice Ao32 t123.length co32)) (fun _ h_ => h_.1))))) (Kd.R_lt (by (with_reducible repeat (first | apply Kd.R_alloc | apply Kd.R_drewN | apply Kd.R_drew)); exact (Kd.R_mono (Kd.R_far (p := ⟨gb126, 2, none⟩) (Kd.R_far (p := ⟨gb126, 1, none⟩) (Kd.R_far (p := ⟨gb126, 0, none⟩) (Kd.R_types HO125.out BK126.out (by decide)) (fun _ hk => hk.2) (.int .i8 t119)) (fun _ hk => hk.2) (.slice Ao31 t120.length co31)) (fun _ hk => hk.2) (.slice Ao32 t123.length co32)) (fun _ h_ => h_.1))))) (below_size (by repeat (first | (with_reducible first | exact HB.out | apply below_alloc | apply pw_below_drewN | apply below_drew1 | refine below_set ?_ GE101.out | refine below_set ?_ GE118.out | refine below_set ?_ GE126.out) | exact HB.out)))); have n8_ := Aside0.mk (blk_below (g := gb101) (o := .cells #[.int .i8 a0_0, .slice A0_1 l0_1.length c0_1, .slice A0_2 l0_2.length c0_2] 26 (0, 0)) (by (with_reducible repeat (first | refine blk_drewN ?_ _ | refine blk_drew ?_ | refine blk_alloc ?_ _)); refine blk_far ?_ NB101_126.out _; (with_reducible repeat (first | refine blk_drewN ?_ _ | refine blk_drew ?_ | refine blk_alloc ?_ _)); refine blk_far ?_ NB101_126.out _; (with_reducible repeat (first | refine blk_drewN ?_ _ | refine blk_drew ?_ | refine blk_alloc ?_ _)); refine blk_far ?_ NB101_126.out _; (with_reducible repeat (first | refine blk_drewN ?_ _ | refine blk_drew ?_ | refine blk_alloc ?_ _)); exact BK101.out) hb); have n9_ := Aside0.mk (blk_below (g := gb118) (o := .cells #[.int .i8 t110, .slice Ao23 t111.length co23, .slice Ao24 t114.length co24] 30 (0, 0)) (by (with_reducible repeat (first | refine blk_drewN ?_ _ | refine blk_drew ?_ | refine blk_alloc ?_ _)); refine blk_far ?_ NB118_126.out _; (with_reducible repeat (first | refine blk_drewN ?_ _ | refine blk_drew ?_ | refine blk_alloc ?_ _)); refine blk_far ?_ NB118_126.out _; (with_reducible repeat (first | refine blk_drewN ?_ _ | refine blk_drew ?_ | refine blk_alloc ?_ _)); refine blk_far ?_ NB118_126.out _; (with_reducible repeat (first | refine blk_drewN ?_ _ | refine blk_drew ?_ | refine blk_alloc ?_ _)); exact BK118.out) hb); have n10_ := Aside0.mk (blk_below (g := gb126) (o := .cells #[.int .i8 t119, .slice Ao31 t120.length co31, .slice Ao32 t123.length co32] 30 (0, 0)) (by (with_reducible repeat (first | refine blk_drewN ?_ _ | refine blk_drew ?_ | refine blk_alloc ?_ _)); refine blk_put (cs := #[.int .i8 t119, .slice Ao31 t120.length co31, .slice none 0 0]) ?_ 2 _ rfl; (with_reducible repeat (first | refine blk_drewN ?_ _ | refine blk_drew ?_ | refine blk_alloc ?_ _)); refine blk_put (cs := #[.int .i8 t119, .slice none 0 0, .slice none 0 0]) ?_ 1 _ rfl; (with_reducible repeat (first | refine blk_drewN ?_ _ | refine blk_drew ?_ | refine blk_alloc ?_ _)); refine blk_put (cs := #[.int .i8 0, .slice none 0 0, .slice none 0 0]) ?_ 0 _ rfl; (with_reducible repeat (first | refine blk_drewN ?_ _ | refine blk_drew ?_ | refine blk_alloc ?_ _)); exact BK126.out) hb); have n11_ := Aside0.mk (below_step (by repeat (first | (with_reducible first | exact HB.out | apply below_alloc | apply pw_below_drewN | apply below_drew1 | refine below_set ?_ GE101.out | refine below_set ?_ GE118.out | refine below_set ?_ GE126.out) | exact HB.out)) hb); clear HO106; clear HO109; clear HO113; clear HO116; clear HO122; clear HO125; clear BK101; clear BK118; clear BK126; clear HB; have HO106 := n0_; have HO109 := n1_; have HO113 := n2_; have HO116 := n3_; have HO122 := n4_; have HO125 := n5_; have HO130 := n6_; have HO133 := n7_; have BK101 := n8_; have BK118 := n9_; have BK126 := n10_; have HB := n11_; clear n0_ n1_ n2_ n3_ n4_ n5_ n6_ n7_ n8_ n9_ n10_ n11_; (try clear hb); (try clear hb2); (try clear hk); (try clear hi); (try clear ho0); (try clear ho1)) | ((with_reducible refine gate_dst (N := 7) rfl ?_); refine box_event ?hg (N := 7) ?hd (cs := #[.int .i8 0, .slice none 0 0, .slice none 0 0]) (t := 30) ?hr ?_; (case hd => rfl); (case hg => rfl); (case hr => first | (go_simp; done) | (go_simp; rfl)); intro gb135 hg w34 hbox hb; have n0_ := Aside0.mk (Kd.R_below (by (with_reducible repeat (first | apply Kd.R_alloc | apply Kd.R_drewN | apply Kd.R_drew)); exact HO106.out) hb); have n1_ := Aside0.mk (Kd.R_below (by (with_reducible repeat (first | apply Kd.R_alloc | apply Kd.R_drewN | apply Kd.R_drew)); exact HO109.out) hb); have n2_ := Aside0.mk (Kd.R_below (by (with_reducible repeat (first | apply Kd.R_alloc | apply Kd.R_drewN | apply Kd.R_drew)); exact HO113.out) hb); have n3_ := Aside0.mk (Kd.R_below (by (with_reducible repeat (first | apply Kd.R_alloc | apply Kd.R_drewN | apply Kd.R_drew)); exact HO116.out) hb); have n4_ := Aside0.mk (Kd.R_below (by (with_reducible repeat (first | apply Kd.R_alloc | apply Kd.R_drewN | apply Kd.R_drew)); exact HO122.out) hb); have n5_ := Aside0.mk (Kd.R_below (by (with_reducible repeat (first | apply Kd.R_alloc | apply Kd.R_drewN | apply Kd.R_drew)); exact HO125.out) hb); have n6_ := Aside0.mk (Kd.R_below (by (with_reducible repeat (first | apply Kd.R_alloc | apply Kd.R_drewN | apply Kd.R_drew)); exact HO130.out) hb); have n7_ := Aside0.mk (Kd.R_below (by (with_reducible repeat (first | apply Kd.R_alloc | apply Kd.R_drewN | apply Kd.R_drew)); exact HO133.out) hb); have n8_ := Aside0.mk (blk_below (g := gb101) (o := .cells #[.int .i8 a0_0, .slice A0_1 l0_1.length c0_1, .slice A0_2 l0_2.length c0_2] 26 (0, 0)) (by (with_reducible repeat (first | refine blk_drewN ?_ _ | refine blk_drew ?_ | refine blk_alloc ?_ _)); exact BK101.out) hb); have n9_ := Aside0.mk (blk_below (g := gb118) (o := .cells #[.int .i8 t110, .slice Ao23 t111.length co23, .slice Ao24 t114.length co24] 30 (0, 0)) (by (with_reducible repeat (first | refine blk_drewN ?_ _ | refine blk_drew ?_ | refine blk_alloc ?_ _)); exact BK118.out) hb); have n10_ := Aside0.mk (blk_below (g := gb126) (o := .cells #[.int .i8 t119, .slice Ao31 t120.length co31, .slice Ao32 t123.length co32] 30 (0, 0)) (by (with_reducible repeat (first | refine blk_drewN ?_ _ | refine blk_drew ?_ | refine blk_alloc ?_ _)); exact BK126.out) hb); have n11_ := Aside0.mk (below_step (by repeat (first | (with_reducible first | exact HB.out | apply below_alloc | apply pw_below_drewN | apply below_drew1 | refine below_set ?_ GE101.out | refine below_set ?_ GE118.out | refine below_set ?_ GE126.out) | exact HB.out)) hb); have n12_ := Aside0.mk (hbox); have n13_ := Aside0.mk ((by rw [hg]; exact (below_size (by repeat (first | (with_reducible first | exact HB.out | apply below_alloc | apply pw_below_drewN | apply below_drew1 | refine below_set ?_ GE101.out | refine below_set ?_ GE118.out | refine below_set ?_ GE126.out) | exact HB.out))) : w.heap.size ≤ gb135)); have n14_ := Aside0.mk ((by rw [hg]; exact (below_size (by repeat (first | (with_reducible first | exact HB.out | apply below_alloc | apply pw_below_drewN | apply below_drew1 | refine below_set ?_ GE101.out | refine below_set ?_ GE118.out | refine below_set ?_ GE126.out) | exact HB.out))) : w.heap.size ≤ gb135)); have n15_ := Aside0.mk ((by rw [hg]; exact Nat.ne_of_lt (blk_lt (g := gb101) (o := .cells #[.int .i8 a0_0, .slice A0_1 l0_1.length c0_1, .slice A0_2 l0_2.length c0_2] 26 (0, 0)) (by (with_reducible repeat (first | refine blk_drewN ?_ _ | refine blk_drew ?_ | refine blk_alloc ?_ _)); exact BK101.out)) : gb101 ≠ gb135)); have n16_ := Aside0.mk ((by rw [hg]; exact Nat.ne_of_gt (blk_lt (g := gb101) (o := .cells #[.int .i8 a0_0, .slice A0_1 l0_1.length c0_1, .slice A0_2 l0_2.length c0_2] 26 (0, 0)) (by (with_reducible repeat (first | refine blk_drewN ?_ _ | refine blk_drew ?_ | refine blk_alloc ?_ _)); exact BK101.out)) : gb135 ≠ gb101)); have n17_ := Aside0.mk ((by rw [hg]; exact Nat.ne_of_lt (blk_lt (g := gb118) (o := .cells #[.int .i8 t110, .slice Ao23 t111.length co23, .slice Ao24 t114.length co24] 30 (0, 0)) (by (with_reducible repeat (first | refine blk_drewN ?_ _ | refine blk_drew ?_ | refine blk_alloc ?_ _)); exact BK118.out)) : gb118 ≠ gb135)); have n18_ := Aside0.mk ((by rw [hg]; exact Nat.ne_of_gt (blk_lt (g := gb118) (o := .cells #[.int .i8 t110, .slice Ao23 t111.length co23, .slice Ao24 t114.length co24] 30 (0, 0)) (by (with_reducible repeat (first | refine blk_drewN ?_ _ | refine blk_drew ?_ | refine blk_alloc ?_ _)); exact BK118.out)) : gb135 ≠ gb118)); have n19_ := Aside0.mk ((by rw [hg]; exact Nat.ne_of_lt (blk_lt (g := gb126) (o := .cells #[.int .i8 t119, .slice Ao31 t120.length co31, .slice Ao32 t123.length co32] 30 (0, 0)) (by (with_reducible repeat (first | refine blk_drewN ?_ _ | refine blk_drew ?_ | refine blk_alloc ?_ _)); exact BK126.out)) : gb126 ≠ gb135)); have n20_ := Aside0.mk ((by rw [hg]; exact Nat.ne_of_gt (blk_lt (g := gb126) (o := .cells #[.int .i8 t119, .slice Ao31 t120.length co31, .slice Ao32 t123.length co32] 30 (0, 0)) (by (with_reducible repeat (first | refine blk_drewN ?_ _ | refine blk_drew ?_ | refine blk_alloc ?_ _)); exact BK126.out)) : gb135 ≠ gb126)); clear HO106; clear HO109; clear HO113; clear HO116; clear HO122; clear HO125; clear HO130; clear HO133; clear BK101; clear BK118; clear BK126; clear HB; have HO106 := n0_; have HO109 := n1_; have HO113 := n2_; have HO116 := n3_; have HO122 := n4_; have HO125 := n5_; have HO130 := n6_; have HO133 := n7_; have BK101 := n8_; have BK118 := n9_; have BK126 := n10_; have HB := n11_; have BK135 := n12_; have GW135 := n13_; have GE135 := n14_; have NB101_135 := n15_; have NB135_101 := n16_; have NB118_135 := n17_; have NB135_118 := n18_; have NB126_135 := n19_; have NB135_126 := n20_; clear n0_ n1_ n2_ n3_ n4_ n5_ n6_ n7_ n8_ n9_ n10_ n11_ n12_ n13_ n14_ n15_ n16_ n17_ n18_ n19_ n20_; clear hb hbox hg; have hnb35 := NB135_101.out; have hnc35 := NB101_135.out; have hnb36 := NB135_118.out; have hnc36 := NB118_135.out; have hnb37 := NB135_126.out; have hnc37 := NB126_135.out; have hcz38_0 : w34.cell? ⟨gb135, 0, none⟩ = some (.int .i8 0) := (blk_cell BK135.out 0).trans rfl; have hcz38_1 : w34.cell? ⟨gb135, 1, none⟩ = some (.slice none 0 0) := (blk_cell BK135.out 1).trans rfl; have hcz38_2 : w34.cell? ⟨gb135, 2, none⟩ = some (.slice none 0 0) := (blk_cell BK135.out 2).trans rfl; have hfz38_0 := blk_frozen BK135.out 0; have hfz38_1 := blk_frozen BK135.out 1; have hfz38_2 := blk_frozen BK135.out 2; obtain ⟨Ao39, co39, eo39⟩ := Kd.R_slice HO130.out; subst eo39; obtain ⟨Ao40, co40, eo40⟩ := Kd.R_slice HO133.out; subst eo40))
    (try simp only [Act.put, List.setIfInBounds_toArray, List.set_cons_zero, List.set_cons_succ])
    go_cut [40] (fun v40 wc => ∃ (kq : Nat) (x40_10 : Bool), v40 = .bool x40_10 ∧ Aside0 (laws_FnExactMergeCircuit.j0 kq t117 t134 x40_10 a0_0 l0_1 l0_2 t110 t111 t114 t119 t120 t123 t127 t128 t131 = some r) ∧ Aside0 (kq ≤ k) ∧ Aside0 (Kd.R k68 68 wc w.heap.size (fun k_ => some k_ ≠ ((.slice Ao31 t120.length co31) : Value).ownBlock ∧ some k_ ≠ ((.slice Ao39 t128.length co39) : Value).ownBlock) (.slice Ao23 t111.length co23) t111) ∧ Aside0 (Kd.R (Kd.int .i16) 66 wc w.heap.size (fun k_ => some k_ ≠ ((.slice Ao32 t123.length co32) : Value).ownBlock ∧ some k_ ≠ ((.slice Ao40 t131.length co40) : Value).ownBlock) (.slice Ao24 t114.length co24) t114) ∧ Aside0 (Kd.R k68 68 wc w.heap.size (fun k_ => some k_ ≠ ((.slice Ao23 t111.length co23) : Value).ownBlock ∧ some k_ ≠ ((.slice Ao39 t128.length co39) : Value).ownBlock) (.slice Ao31 t120.length co31) t120) ∧ Aside0 (Kd.R (Kd.int .i16) 66 wc w.heap.size (fun k_ => some k_ ≠ ((.slice Ao24 t114.length co24) : Value).ownBlock ∧ some k_ ≠ ((.slice Ao40 t131.length co40) : Value).ownBlock) (.slice Ao32 t123.length co32) t123) ∧ Aside0 (Kd.R k68 68 wc w.heap.size (fun k_ => some k_ ≠ ((.slice Ao23 t111.length co23) : Value).ownBlock ∧ some k_ ≠ ((.slice Ao31 t120.length co31) : Value).ownBlock) (.slice Ao39 t128.length co39) t128) ∧ Aside0 (Kd.R (Kd.int .i16) 66 wc w.heap.size (fun k_ => some k_ ≠ ((.slice Ao24 t114.length co24) : Value).ownBlock ∧ some k_ ≠ ((.slice Ao32 t123.length co32) : Value).ownBlock) (.slice Ao40 t131.length co40) t131) ∧ Aside0 (wc.heap[gb101]? = some (.cells #[.int .i8 a0_0, (.slice A0_1 l0_1.length c0_1), (.slice A0_2 l0_2.length c0_2)] 26 (0, 0))) ∧ Aside0 (wc.heap[gb118]? = some (.cells #[.int .i8 t110, (.slice Ao23 t111.length co23), (.slice Ao24 t114.length co24)] 30 (0, 0))) ∧ Aside0 (wc.heap[gb126]? = some (.cells #[.int .i8 t119, (.slice Ao31 t120.length co31), (.slice Ao32 t123.length co32)] 30 (0, 0))) ∧ Aside0 (wc.heap[gb135]? = some (.cells #[.int .i8 t127, (.slice Ao39 t128.length co39), (.slice Ao40 t131.length co40)] 30 (0, 0))) ∧ Aside0 (Below w.heap.size w wc))
    case first =>
      have H := HC11.out
      clear HC11
      replace H := Option.bind_eq_some_iff.mp H
      obtain ⟨t136, A410, H⟩ := H
      replace H : (if t136 = true then (laws_FnExactMergeCircuit.j0 k t117 t134 (t134 != t117) a0_0 l0_1 l0_2 t110 t111 t114 t119 t120 t123 t127 t128 t131) else (laws_FnExactMergeCircuit.j0 k t117 t134 true a0_0 l0_1 l0_2 t110 t111 t114 t119 t120 t123 t127 t128 t131)) = some r := H
      have A41 := Aside0.mk A410
      clear A410
      by_cases c42 : t136 = true
      · subst c42
        have H1 : (laws_FnExactMergeCircuit.j0 k t117 t134 (t134 != t117) a0_0 l0_1 l0_2 t110 t111 t114 t119 t120 t123 t127 t128 t131) = some r := by rw [if_pos rfl] at H; exact H
        clear H
        have H := H1
        clear H1
        have H' := Aside0.mk H
        clear H
        have hnb43 := NB135_101.out
        have hnc43 := NB101_135.out
        have hnb44 := NB135_118.out
        have hnc44 := NB118_135.out
        have hnb45 := NB135_126.out
        have hnc45 := NB126_135.out
        have hcz46_0 : w34.cell? ⟨gb135, 0, none⟩ = some (.int .i8 0) := (blk_cell BK135.out 0).trans rfl
        have hcz46_1 : w34.cell? ⟨gb135, 1, none⟩ = some (.slice none 0 0) := (blk_cell BK135.out 1).trans rfl
        have hcz46_2 : w34.cell? ⟨gb135, 2, none⟩ = some (.slice none 0 0) := (blk_cell BK135.out 2).trans rfl
        have hfz46_0 := blk_frozen BK135.out 0
        have hfz46_1 := blk_frozen BK135.out 1
        have hfz46_2 := blk_frozen BK135.out 2
        have hnb47 := NB118_101.out
        have hnc47 := NB101_118.out
        have hnb48 := NB118_126.out
        have hnc48 := NB126_118.out
        have hcz49_0 : w34.cell? ⟨gb118, 0, none⟩ = some (.int .i8 t110) := (blk_cell BK118.out 0).trans rfl
        have hcz49_1 : w34.cell? ⟨gb118, 1, none⟩ = some (.slice Ao23 t111.length co23) := (blk_cell BK118.out 1).trans rfl
        have hcz49_2 : w34.cell? ⟨gb118, 2, none⟩ = some (.slice Ao24 t114.length co24) := (blk_cell BK118.out 2).trans rfl
        have hfz49_0 := blk_frozen BK118.out 0
        have hfz49_1 := blk_frozen BK118.out 1
        have hfz49_2 := blk_frozen BK118.out 2
        go_wp2_with (first | ((with_reducible refine gate_callee (f := 13) rfl ?_); refine goesL_ (some 34) rfl rfl Try.func13 (by kernel_rfl) rfl #[.agg #[.int .i8 t127, .slice Ao39 t128.length co39, .slice Ao40 t131.length co40], .agg #[.int .i8 t110, .slice Ao23 t111.length co23, .slice Ao24 t114.length co24]] rfl (by (try simp only [List.map_toArray, List.map_cons, List.map_nil]); first | done | rfl | (simp only [List.length_drop, List.length_take]; rfl)) ?_; (with_reducible refine (laws_eqCircuit.calls k t127 _ _ t128 _ _ t131 t110 _ _ t111 _ _ t114 true _ ?side1 ?side2 ?side3 ?side4 ?side5 ?side6 ?side7 ?side8 A41.out).mono ?_); (case side1 => refine (Kd.R_reads' (e := 68) (base := w.heap.size) (ok := fun k_ => (((True ∧ some k_ ≠ (.slice Ao17 t104.length co17 : Value).ownBlock) ∧ some k_ ≠ (.slice Ao23 t111.length co23 : Value).ownBlock) ∧ some k_ ≠ (.slice Ao31 t120.length co31 : Value).ownBlock)) (n := t128.length) (c := co39) ?_).2.2; exact (by (with_reducible repeat (first | apply Kd.R_alloc | apply Kd.R_drewN | apply Kd.R_drew)); exact (Kd.R_mono (Kd.R_far (p := ⟨gb135, 2, none⟩) (Kd.R_far (p := ⟨gb135, 1, none⟩) (Kd.R_far (p := ⟨gb135, 0, none⟩) (Kd.R_types HO130.out BK135.out (by decide)) (fun _ hk => hk.2) (.int .i8 t127)) (fun _ hk => hk.2) (.slice Ao39 t128.length co39)) (fun _ hk => hk.2) (.slice Ao40 t131.length co40)) (fun _ h_ => h_.1)))); (case side2 => exact (Kd.R_reads' HO130.out).2.1); (case side3 => refine (Kd.R_reads' (e := 66) (base := w.heap.size) (ok := fun k_ => (((True ∧ some k_ ≠ (.slice Ao18 t107.length co18 : Value).ownBlock) ∧ some k_ ≠ (.slice Ao24 t114.length co24 : Value).ownBlock) ∧ some k_ ≠ (.slice Ao32 t123.length co32 : Value).ownBlock)) (n := t131.length) (c := co40) ?_).2.2; exact (by (with_reducible repeat (first | apply Kd.R_alloc | apply Kd.R_drewN | apply Kd.R_drew)); exact (Kd.R_mono (Kd.R_far (p := ⟨gb135, 2, none⟩) (Kd.R_far (p := ⟨gb135, 1, none⟩) (Kd.R_far (p := ⟨gb135, 0, none⟩) (Kd.R_types HO133.out BK135.out (by decide)) (fun _ hk => hk.2) (.int .i8 t127)) (fun _ hk => hk.2) (.slice Ao39 t128.length co39)) (fun _ hk => hk.2) (.slice Ao40 t131.length co40)) (fun _ h_ => h_.1)))); (case side4 => exact (Kd.R_reads' HO133.out).2.1); (case side5 => refine (Kd.R_reads' (e := 68) (base := w.heap.size) (ok := fun k_ => (((True ∧ some k_ ≠ (.slice Ao17 t104.length co17 : Value).ownBlock) ∧ some k_ ≠ (.slice Ao31 t120.length co31 : Value).ownBlock) ∧ some k_ ≠ (.slice Ao39 t128.length co39 : Value).ownBlock)) (n := t111.length) (c := co23) ?_).2.2; exact (by (with_reducible repeat (first | apply Kd.R_alloc | apply Kd.R_drewN | apply Kd.R_drew)); exact (Kd.R_mono (Kd.R_far (p := ⟨gb135, 2, none⟩) (Kd.R_far (p := ⟨gb135, 1, none⟩) (Kd.R_far (p := ⟨gb135, 0, none⟩) (Kd.R_types HO113.out BK135.out (by decide)) (fun _ hk => hk.2) (.int .i8 t127)) (fun _ hk => hk.2) (.slice Ao39 t128.length co39)) (fun _ hk => hk.2) (.slice Ao40 t131.length co40)) (fun _ h_ => h_.1)))); (case side6 => exact (Kd.R_reads' HO113.out).2.1); (case side7 => refine (Kd.R_reads' (e := 66) (base := w.heap.size) (ok := fun k_ => (((True ∧ some k_ ≠ (.slice Ao18 t107.length co18 : Value).ownBlock) ∧ some k_ ≠ (.slice Ao32 t123.length co32 : Value).ownBlock) ∧ some k_ ≠ (.slice Ao40 t131.length co40 : Value).ownBlock)) (n := t114.length) (c := co24) ?_).2.2; exact (by (with_reducible repeat (first | apply Kd.R_alloc | apply Kd.R_drewN | apply Kd.R_drew)); exact (Kd.R_mono (Kd.R_far (p := ⟨gb135, 2, none⟩) (Kd.R_far (p := ⟨gb135, 1, none⟩) (Kd.R_far (p := ⟨gb135, 0, none⟩) (Kd.R_types HO116.out BK135.out (by decide)) (fun _ hk => hk.2) (.int .i8 t127)) (fun _ hk => hk.2) (.slice Ao39 t128.length co39)) (fun _ hk => hk.2) (.slice Ao40 t131.length co40)) (fun _ h_ => h_.1)))); (case side8 => exact (Kd.R_reads' HO116.out).2.1); rintro e w50 ⟨rfl, hb⟩; refine ⟨_, rfl, ?_⟩; have n0_ := Aside0.mk (Kd.R_below (by (with_reducible repeat (first | apply Kd.R_alloc | apply Kd.R_drewN | apply Kd.R_drew)); exact (Kd.R_mono (Kd.R_far (p := ⟨gb135, 2, none⟩) (Kd.R_far (p := ⟨gb135, 1, none⟩) (Kd.R_far (p := ⟨gb135, 0, none⟩) (Kd.R_types HO106.out BK135.out (by decide)) (fun _ hk => hk.2) (.int .i8 t127)) (fun _ hk => hk.2) (.slice Ao39 t128.length co39)) (fun _ hk => hk.2) (.slice Ao40 t131.length co40)) (fun _ h_ => h_.1))) hb); have n1_ := Aside0.mk (Kd.R_below (by (with_reducible repeat (first | apply Kd.R_alloc | apply Kd.R_drewN | apply Kd.R_drew)); exact (Kd.R_mono (Kd.R_far (p := ⟨gb135, 2, none⟩) (Kd.R_far (p := ⟨gb135, 1, none⟩) (Kd.R_far (p := ⟨gb135, 0, none⟩) (Kd.R_types HO109.out BK135.out (by decide)) (fun _ hk => hk.2) (.int .i8 t127)) (fun _ hk => hk.2) (.slice Ao39 t128.length co39)) (fun _ hk => hk.2) (.slice Ao40 t131.length co40)) (fun _ h_ => h_.1))) hb); have n2_ := Aside0.mk (Kd.R_below (by (with_reducible repeat (first | apply Kd.R_alloc | apply Kd.R_drewN | apply Kd.R_drew)); exact (Kd.R_mono (Kd.R_far (p := ⟨gb135, 2, none⟩) (Kd.R_far (p := ⟨gb135, 1, none⟩) (Kd.R_far (p := ⟨gb135, 0, none⟩) (Kd.R_types HO113.out BK135.out (by decide)) (fun _ hk => hk.2) (.int .i8 t127)) (fun _ hk => hk.2) (.slice Ao39 t128.length co39)) (fun _ hk => hk.2) (.slice Ao40 t131.length co40)) (fun _ h_ => h_.1))) hb); have n3_ := Aside0.mk (Kd.R_below (by (with_reducible repeat (first | apply Kd.R_alloc | apply Kd.R_drewN | apply Kd.R_drew)); exact (Kd.R_mono (Kd.R_far (p := ⟨gb135, 2, none⟩) (Kd.R_far (p := ⟨gb135, 1, none⟩) (Kd.R_far (p := ⟨gb135, 0, none⟩) (Kd.R_types HO116.out BK135.out (by decide)) (fun _ hk => hk.2) (.int .i8 t127)) (fun _ hk => hk.2) (.slice Ao39 t128.length co39)) (fun _ hk => hk.2) (.slice Ao40 t131.length co40)) (fun _ h_ => h_.1))) hb); have n4_ := Aside0.mk (Kd.R_below (by (with_reducible repeat (first | apply Kd.R_alloc | apply Kd.R_drewN | apply Kd.R_drew)); exact (Kd.R_mono (Kd.R_far (p := ⟨gb135, 2, none⟩) (Kd.R_far (p := ⟨gb135, 1, none⟩) (Kd.R_far (p := ⟨gb135, 0, none⟩) (Kd.R_types HO122.out BK135.out (by decide)) (fun _ hk => hk.2) (.int .i8 t127)) (fun _ hk => hk.2) (.slice Ao39 t128.length co39)) (fun _ hk => hk.2) (.slice Ao40 t131.length co40)) (fun _ h_ => h_.1))) hb); have n5_ := Aside0.mk (Kd.R_below (by (with_reducible repeat (first | apply Kd.R_alloc | apply Kd.R_drewN | apply Kd.R_drew)); exact (Kd.R_mono (Kd.R_far (p := ⟨gb135, 2, none⟩) (Kd.R_far (p := ⟨gb135, 1, none⟩) (Kd.R_far (p := ⟨gb135, 0, none⟩) (Kd.R_types HO125.out BK135.out (by decide)) (fun _ hk => hk.2) (.int .i8 t127)) (fun _ hk => hk.2) (.slice Ao39 t128.length co39)) (fun _ hk => hk.2) (.slice Ao40 t131.length co40)) (fun _ h_ => h_.1))) hb); have n6_ := Aside0.mk (Kd.R_below (by (with_reducible repeat (first | apply Kd.R_alloc | apply Kd.R_drewN | apply Kd.R_drew)); exact (Kd.R_mono (Kd.R_far (p := ⟨gb135, 2, none⟩) (Kd.R_far (p := ⟨gb135, 1, none⟩) (Kd.R_far (p := ⟨gb135, 0, none⟩) (Kd.R_types HO130.out BK135.out (by decide)) (fun _ hk => hk.2) (.int .i8 t127)) (fun _ hk => hk.2) (.slice Ao39 t128.length co39)) (fun _ hk => hk.2) (.slice Ao40 t131.length co40)) (fun _ h_ => h_.1))) hb); have n7_ := Aside0.mk (Kd.R_below (by (with_reducible repeat (first | apply Kd.R_alloc | apply Kd.R_drewN | apply Kd.R_drew)); exact (Kd.R_mono (Kd.R_far (p := ⟨gb135, 2, none⟩) (Kd.R_far (p := ⟨gb135, 1, none⟩) (Kd.R_far (p := ⟨gb135, 0, none⟩) (Kd.R_types HO133.out BK135.out (by decide)) (fun _ hk => hk.2) (.int .i8 t127)) (fun _ hk => hk.2) (.slice Ao39 t128.length co39)) (fun _ hk => hk.2) (.slice Ao40 t131.length co40)) (fun _ h_ => h_.1))) hb); have n8_ := Aside0.mk (blk_below (g := gb101) (o := .cells #[.int .i8 a0_0, .slice A0_1 l0_1.length c0_1, .slice A0_2 l0_2.length c0_2] 26 (0, 0)) (by (with_reducible repeat (first | refine blk_drewN ?_ _ | refine blk_drew ?_ | refine blk_alloc ?_ _)); refine blk_far ?_ NB101_135.out _; (with_reducible repeat (first | refine blk_drewN ?_ _ | refine blk_drew ?_ | refine blk_alloc ?_ _)); refine blk_far ?_ NB101_135.out _; (with_reducible repeat (first | refine blk_drewN ?_ _ | refine blk_drew ?_ | refine blk_alloc ?_ _)); refine blk_far ?_ NB101_135.out _; (with_reducible repeat (first | refine blk_drewN ?_ _ | refine blk_drew ?_ | refine blk_alloc ?_ _)); exact BK101.out) hb); have n9_ := Aside0.mk (blk_below (g := gb118) (o := .cells #[.int .i8 t110, .slice Ao23 t111.length co23, .slice Ao24 t114.length co24] 30 (0, 0)) (by (with_reducible repeat (first | refine blk_drewN ?_ _ | refine blk_drew ?_ | refine blk_alloc ?_ _)); refine blk_far ?_ NB118_135.out _; (with_reducible repeat (first | refine blk_drewN ?_ _ | refine blk_drew ?_ | refine blk_alloc ?_ _)); refine blk_far ?_ NB118_135.out _; (with_reducible repeat (first | refine blk_drewN ?_ _ | refine blk_drew ?_ | refine blk_alloc ?_ _)); refine blk_far ?_ NB118_135.out _; (with_reducible repeat (first | refine blk_drewN ?_ _ | refine blk_drew ?_ | refine blk_alloc ?_ _)); exact BK118.out) hb); have n10_ := Aside0.mk (blk_below (g := gb126) (o := .cells #[.int .i8 t119, .slice Ao31 t120.length co31, .slice Ao32 t123.length co32] 30 (0, 0)) (by (with_reducible repeat (first | refine blk_drewN ?_ _ | refine blk_drew ?_ | refine blk_alloc ?_ _)); refine blk_far ?_ NB126_135.out _; (with_reducible repeat (first | refine blk_drewN ?_ _ | refine blk_drew ?_ | refine blk_alloc ?_ _)); refine blk_far ?_ NB126_135.out _; (with_reducible repeat (first | refine blk_drewN ?_ _ | refine blk_drew ?_ | refine blk_alloc ?_ _)); refine blk_far ?_ NB126_135.out _; (with_reducible repeat (first | refine blk_drewN ?_ _ | refine blk_drew ?_ | refine blk_alloc ?_ _)); exact BK126.out) hb); have n11_ := Aside0.mk (blk_below (g := gb135) (o := .cells #[.int .i8 t127, .slice Ao39 t128.length co39, .slice Ao40 t131.length co40] 30 (0, 0)) (by (with_reducible repeat (first | refine blk_drewN ?_ _ | refine blk_drew ?_ | refine blk_alloc ?_ _)); refine blk_put (cs := #[.int .i8 t127, .slice Ao39 t128.length co39, .slice none 0 0]) ?_ 2 _ rfl; (with_reducible repeat (first | refine blk_drewN ?_ _ | refine blk_drew ?_ | refine blk_alloc ?_ _)); refine blk_put (cs := #[.int .i8 t127, .slice none 0 0, .slice none 0 0]) ?_ 1 _ rfl; (with_reducible repeat (first | refine blk_drewN ?_ _ | refine blk_drew ?_ | refine blk_alloc ?_ _)); refine blk_put (cs := #[.int .i8 0, .slice none 0 0, .slice none 0 0]) ?_ 0 _ rfl; (with_reducible repeat (first | refine blk_drewN ?_ _ | refine blk_drew ?_ | refine blk_alloc ?_ _)); exact BK135.out) hb); have n12_ := Aside0.mk (below_step (by repeat (first | (with_reducible first | exact HB.out | apply below_alloc | apply pw_below_drewN | apply below_drew1 | refine below_set ?_ GE101.out | refine below_set ?_ GE118.out | refine below_set ?_ GE126.out | refine below_set ?_ GE135.out) | exact HB.out)) hb); clear HO106; clear HO109; clear HO113; clear HO116; clear HO122; clear HO125; clear HO130; clear HO133; clear BK101; clear BK118; clear BK126; clear BK135; clear HB; have HO106 := n0_; have HO109 := n1_; have HO113 := n2_; have HO116 := n3_; have HO122 := n4_; have HO125 := n5_; have HO130 := n6_; have HO133 := n7_; have BK101 := n8_; have BK118 := n9_; have BK126 := n10_; have BK135 := n11_; have HB := n12_; clear n0_ n1_ n2_ n3_ n4_ n5_ n6_ n7_ n8_ n9_ n10_ n11_ n12_; (try clear hb); (try clear hb2); (try clear hk); (try clear hi)))
        go_meet
        case rel => exact ⟨_, ((t134 != t117)), (by first | rfl | (simp; done) | (simp [*]; done)), H', ⟨by first | omega | exact Nat.le_refl _⟩, ⟨by (with_reducible repeat (first | apply Kd.R_alloc | apply Kd.R_drewN | apply Kd.R_drew)); exact Kd.R_mono HO113.out (fun _ hk => ⟨hk.1.2, hk.2⟩)⟩, ⟨by (with_reducible repeat (first | apply Kd.R_alloc | apply Kd.R_drewN | apply Kd.R_drew)); exact Kd.R_mono HO116.out (fun _ hk => ⟨hk.1.2, hk.2⟩)⟩, ⟨by (with_reducible repeat (first | apply Kd.R_alloc | apply Kd.R_drewN | apply Kd.R_drew)); exact Kd.R_mono HO122.out (fun _ hk => ⟨hk.1.2, hk.2⟩)⟩, ⟨by (with_reducible repeat (first | apply Kd.R_alloc | apply Kd.R_drewN | apply Kd.R_drew)); exact Kd.R_mono HO125.out (fun _ hk => ⟨hk.1.2, hk.2⟩)⟩, ⟨by (with_reducible repeat (first | apply Kd.R_alloc | apply Kd.R_drewN | apply Kd.R_drew)); exact Kd.R_mono HO130.out (fun _ hk => ⟨hk.1.2, hk.2⟩)⟩, ⟨by (with_reducible repeat (first | apply Kd.R_alloc | apply Kd.R_drewN | apply Kd.R_drew)); exact Kd.R_mono HO133.out (fun _ hk => ⟨hk.1.2, hk.2⟩)⟩, ⟨by (with_reducible repeat (first | refine blk_drewN ?_ _ | refine blk_drew ?_ | refine blk_alloc ?_ _)); exact BK101.out⟩, ⟨by (with_reducible repeat (first | refine blk_drewN ?_ _ | refine blk_drew ?_ | refine blk_alloc ?_ _)); exact BK118.out⟩, ⟨by (with_reducible repeat (first | refine blk_drewN ?_ _ | refine blk_drew ?_ | refine blk_alloc ?_ _)); exact BK126.out⟩, ⟨by (with_reducible repeat (first | refine blk_drewN ?_ _ | refine blk_drew ?_ | refine blk_alloc ?_ _)); exact BK135.out⟩, ⟨by repeat (first | (with_reducible first | exact HB.out | apply below_alloc | apply pw_below_drewN | apply below_drew1 | refine below_set ?_ GE101.out | refine below_set ?_ GE118.out | refine below_set ?_ GE126.out | refine below_set ?_ GE135.out) | exact HB.out)⟩⟩
      · replace c42 := Bool.eq_false_iff.mpr c42
        subst c42
        have H1 : (laws_FnExactMergeCircuit.j0 k t117 t134 true a0_0 l0_1 l0_2 t110 t111 t114 t119 t120 t123 t127 t128 t131) = some r := by rw [if_neg (show ¬ (false = true) by decide)] at H; exact H
        clear H
        have H := H1
        clear H1
        have H' := Aside0.mk H
        clear H
        have hnb51 := NB135_101.out
        have hnc51 := NB101_135.out
        have hnb52 := NB135_118.out
        have hnc52 := NB118_135.out
        have hnb53 := NB135_126.out
        have hnc53 := NB126_135.out
        have hcz54_0 : w34.cell? ⟨gb135, 0, none⟩ = some (.int .i8 0) := (blk_cell BK135.out 0).trans rfl
        have hcz54_1 : w34.cell? ⟨gb135, 1, none⟩ = some (.slice none 0 0) := (blk_cell BK135.out 1).trans rfl
        have hcz54_2 : w34.cell? ⟨gb135, 2, none⟩ = some (.slice none 0 0) := (blk_cell BK135.out 2).trans rfl
        have hfz54_0 := blk_frozen BK135.out 0
        have hfz54_1 := blk_frozen BK135.out 1
        have hfz54_2 := blk_frozen BK135.out 2
        have hnb55 := NB118_101.out
        have hnc55 := NB101_118.out
        have hnb56 := NB118_126.out
        have hnc56 := NB126_118.out
        have hcz57_0 : w34.cell? ⟨gb118, 0, none⟩ = some (.int .i8 t110) := (blk_cell BK118.out 0).trans rfl
        have hcz57_1 : w34.cell? ⟨gb118, 1, none⟩ = some (.slice Ao23 t111.length co23) := (blk_cell BK118.out 1).trans rfl
        have hcz57_2 : w34.cell? ⟨gb118, 2, none⟩ = some (.slice Ao24 t114.length co24) := (blk_cell BK118.out 2).trans rfl
        have hfz57_0 := blk_frozen BK118.out 0
        have hfz57_1 := blk_frozen BK118.out 1
        have hfz57_2 := blk_frozen BK118.out 2
        go_wp2_with (first | ((with_reducible refine gate_callee (f := 13) rfl ?_); refine goesL_ (some 34) rfl rfl Try.func13 (by kernel_rfl) rfl #[.agg #[.int .i8 t127, .slice Ao39 t128.length co39, .slice Ao40 t131.length co40], .agg #[.int .i8 t110, .slice Ao23 t111.length co23, .slice Ao24 t114.length co24]] rfl (by (try simp only [List.map_toArray, List.map_cons, List.map_nil]); first | done | rfl | (simp only [List.length_drop, List.length_take]; rfl)) ?_; (with_reducible refine (laws_eqCircuit.calls k t127 _ _ t128 _ _ t131 t110 _ _ t111 _ _ t114 false _ ?side1 ?side2 ?side3 ?side4 ?side5 ?side6 ?side7 ?side8 A41.out).mono ?_); (case side1 => refine (Kd.R_reads' (e := 68) (base := w.heap.size) (ok := fun k_ => (((True ∧ some k_ ≠ (.slice Ao17 t104.length co17 : Value).ownBlock) ∧ some k_ ≠ (.slice Ao23 t111.length co23 : Value).ownBlock) ∧ some k_ ≠ (.slice Ao31 t120.length co31 : Value).ownBlock)) (n := t128.length) (c := co39) ?_).2.2; exact (by (with_reducible repeat (first | apply Kd.R_alloc | apply Kd.R_drewN | apply Kd.R_drew)); exact (Kd.R_mono (Kd.R_far (p := ⟨gb135, 2, none⟩) (Kd.R_far (p := ⟨gb135, 1, none⟩) (Kd.R_far (p := ⟨gb135, 0, none⟩) (Kd.R_types HO130.out BK135.out (by decide)) (fun _ hk => hk.2) (.int .i8 t127)) (fun _ hk => hk.2) (.slice Ao39 t128.length co39)) (fun _ hk => hk.2) (.slice Ao40 t131.length co40)) (fun _ h_ => h_.1)))); (case side2 => exact (Kd.R_reads' HO130.out).2.1); (case side3 => refine (Kd.R_reads' (e := 66) (base := w.heap.size) (ok := fun k_ => (((True ∧ some k_ ≠ (.slice Ao18 t107.length co18 : Value).ownBlock) ∧ some k_ ≠ (.slice Ao24 t114.length co24 : Value).ownBlock) ∧ some k_ ≠ (.slice Ao32 t123.length co32 : Value).ownBlock)) (n := t131.length) (c := co40) ?_).2.2; exact (by (with_reducible repeat (first | apply Kd.R_alloc | apply Kd.R_drewN | apply Kd.R_drew)); exact (Kd.R_mono (Kd.R_far (p := ⟨gb135, 2, none⟩) (Kd.R_far (p := ⟨gb135, 1, none⟩) (Kd.R_far (p := ⟨gb135, 0, none⟩) (Kd.R_types HO133.out BK135.out (by decide)) (fun _ hk => hk.2) (.int .i8 t127)) (fun _ hk => hk.2) (.slice Ao39 t128.length co39)) (fun _ hk => hk.2) (.slice Ao40 t131.length co40)) (fun _ h_ => h_.1)))); (case side4 => exact (Kd.R_reads' HO133.out).2.1); (case side5 => refine (Kd.R_reads' (e := 68) (base := w.heap.size) (ok := fun k_ => (((True ∧ some k_ ≠ (.slice Ao17 t104.length co17 : Value).ownBlock) ∧ some k_ ≠ (.slice Ao31 t120.length co31 : Value).ownBlock) ∧ some k_ ≠ (.slice Ao39 t128.length co39 : Value).ownBlock)) (n := t111.length) (c := co23) ?_).2.2; exact (by (with_reducible repeat (first | apply Kd.R_alloc | apply Kd.R_drewN | apply Kd.R_drew)); exact (Kd.R_mono (Kd.R_far (p := ⟨gb135, 2, none⟩) (Kd.R_far (p := ⟨gb135, 1, none⟩) (Kd.R_far (p := ⟨gb135, 0, none⟩) (Kd.R_types HO113.out BK135.out (by decide)) (fun _ hk => hk.2) (.int .i8 t127)) (fun _ hk => hk.2) (.slice Ao39 t128.length co39)) (fun _ hk => hk.2) (.slice Ao40 t131.length co40)) (fun _ h_ => h_.1)))); (case side6 => exact (Kd.R_reads' HO113.out).2.1); (case side7 => refine (Kd.R_reads' (e := 66) (base := w.heap.size) (ok := fun k_ => (((True ∧ some k_ ≠ (.slice Ao18 t107.length co18 : Value).ownBlock) ∧ some k_ ≠ (.slice Ao32 t123.length co32 : Value).ownBlock) ∧ some k_ ≠ (.slice Ao40 t131.length co40 : Value).ownBlock)) (n := t114.length) (c := co24) ?_).2.2; exact (by (with_reducible repeat (first | apply Kd.R_alloc | apply Kd.R_drewN | apply Kd.R_drew)); exact (Kd.R_mono (Kd.R_far (p := ⟨gb135, 2, none⟩) (Kd.R_far (p := ⟨gb135, 1, none⟩) (Kd.R_far (p := ⟨gb135, 0, none⟩) (Kd.R_types HO116.out BK135.out (by decide)) (fun _ hk => hk.2) (.int .i8 t127)) (fun _ hk => hk.2) (.slice Ao39 t128.length co39)) (fun _ hk => hk.2) (.slice Ao40 t131.length co40)) (fun _ h_ => h_.1)))); (case side8 => exact (Kd.R_reads' HO116.out).2.1); rintro e w58 ⟨rfl, hb⟩; refine ⟨_, rfl, ?_⟩; have n0_ := Aside0.mk (Kd.R_below (by (with_reducible repeat (first | apply Kd.R_alloc | apply Kd.R_drewN | apply Kd.R_drew)); exact (Kd.R_mono (Kd.R_far (p := ⟨gb135, 2, none⟩) (Kd.R_far (p := ⟨gb135, 1, none⟩) (Kd.R_far (p := ⟨gb135, 0, none⟩) (Kd.R_types HO106.out BK135.out (by decide)) (fun _ hk => hk.2) (.int .i8 t127)) (fun _ hk => hk.2) (.slice Ao39 t128.length co39)) (fun _ hk => hk.2) (.slice Ao40 t131.length co40)) (fun _ h_ => h_.1))) hb); have n1_ := Aside0.mk (Kd.R_below (by (with_reducible repeat (first | apply Kd.R_alloc | apply Kd.R_drewN | apply Kd.R_drew)); exact (Kd.R_mono (Kd.R_far (p := ⟨gb135, 2, none⟩) (Kd.R_far (p := ⟨gb135, 1, none⟩) (Kd.R_far (p := ⟨gb135, 0, none⟩) (Kd.R_types HO109.out BK135.out (by decide)) (fun _ hk => hk.2) (.int .i8 t127)) (fun _ hk => hk.2) (.slice Ao39 t128.length co39)) (fun _ hk => hk.2) (.slice Ao40 t131.length co40)) (fun _ h_ => h_.1))) hb); have n2_ := Aside0.mk (Kd.R_below (by (with_reducible repeat (first | apply Kd.R_alloc | apply Kd.R_drewN | apply Kd.R_drew)); exact (Kd.R_mono (Kd.R_far (p := ⟨gb135, 2, none⟩) (Kd.R_far (p := ⟨gb135, 1, none⟩) (Kd.R_far (p := ⟨gb135, 0, none⟩) (Kd.R_types HO113.out BK135.out (by decide)) (fun _ hk => hk.2) (.int .i8 t127)) (fun _ hk => hk.2) (.slice Ao39 t128.length co39)) (fun _ hk => hk.2) (.slice Ao40 t131.length co40)) (fun _ h_ => h_.1))) hb); have n3_ := Aside0.mk (Kd.R_below (by (with_reducible repeat (first | apply Kd.R_alloc | apply Kd.R_drewN | apply Kd.R_drew)); exact (Kd.R_mono (Kd.R_far (p := ⟨gb135, 2, none⟩) (Kd.R_far (p := ⟨gb135, 1, none⟩) (Kd.R_far (p := ⟨gb135, 0, none⟩) (Kd.R_types HO116.out BK135.out (by decide)) (fun _ hk => hk.2) (.int .i8 t127)) (fun _ hk => hk.2) (.slice Ao39 t128.length co39)) (fun _ hk => hk.2) (.slice Ao40 t131.length co40)) (fun _ h_ => h_.1))) hb); have n4_ := Aside0.mk (Kd.R_below (by (with_reducible repeat (first | apply Kd.R_alloc | apply Kd.R_drewN | apply Kd.R_drew)); exact (Kd.R_mono (Kd.R_far (p := ⟨gb135, 2, none⟩) (Kd.R_far (p := ⟨gb135, 1, none⟩) (Kd.R_far (p := ⟨gb135, 0, none⟩) (Kd.R_types HO122.out BK135.out (by decide)) (fun _ hk => hk.2) (.int .i8 t127)) (fun _ hk => hk.2) (.slice Ao39 t128.length co39)) (fun _ hk => hk.2) (.slice Ao40 t131.length co40)) (fun _ h_ => h_.1))) hb); have n5_ := Aside0.mk (Kd.R_below (by (with_reducible repeat (first | apply Kd.R_alloc | apply Kd.R_drewN | apply Kd.R_drew)); exact (Kd.R_mono (Kd.R_far (p := ⟨gb135, 2, none⟩) (Kd.R_far (p := ⟨gb135, 1, none⟩) (Kd.R_far (p := ⟨gb135, 0, none⟩) (Kd.R_types HO125.out BK135.out (by decide)) (fun _ hk => hk.2) (.int .i8 t127)) (fun _ hk => hk.2) (.slice Ao39 t128.length co39)) (fun _ hk => hk.2) (.slice Ao40 t131.length co40)) (fun _ h_ => h_.1))) hb); have n6_ := Aside0.mk (Kd.R_below (by (with_reducible repeat (first | apply Kd.R_alloc | apply Kd.R_drewN | apply Kd.R_drew)); exact (Kd.R_mono (Kd.R_far (p := ⟨gb135, 2, none⟩) (Kd.R_far (p := ⟨gb135, 1, none⟩) (Kd.R_far (p := ⟨gb135, 0, none⟩) (Kd.R_types HO130.out BK135.out (by decide)) (fun _ hk => hk.2) (.int .i8 t127)) (fun _ hk => hk.2) (.slice Ao39 t128.length co39)) (fun _ hk => hk.2) (.slice Ao40 t131.length co40)) (fun _ h_ => h_.1))) hb); have n7_ := Aside0.mk (Kd.R_below (by (with_reducible repeat (first | apply Kd.R_alloc | apply Kd.R_drewN | apply Kd.R_drew)); exact (Kd.R_mono (Kd.R_far (p := ⟨gb135, 2, none⟩) (Kd.R_far (p := ⟨gb135, 1, none⟩) (Kd.R_far (p := ⟨gb135, 0, none⟩) (Kd.R_types HO133.out BK135.out (by decide)) (fun _ hk => hk.2) (.int .i8 t127)) (fun _ hk => hk.2) (.slice Ao39 t128.length co39)) (fun _ hk => hk.2) (.slice Ao40 t131.length co40)) (fun _ h_ => h_.1))) hb); have n8_ := Aside0.mk (blk_below (g := gb101) (o := .cells #[.int .i8 a0_0, .slice A0_1 l0_1.length c0_1, .slice A0_2 l0_2.length c0_2] 26 (0, 0)) (by (with_reducible repeat (first | refine blk_drewN ?_ _ | refine blk_drew ?_ | refine blk_alloc ?_ _)); refine blk_far ?_ NB101_135.out _; (with_reducible repeat (first | refine blk_drewN ?_ _ | refine blk_drew ?_ | refine blk_alloc ?_ _)); refine blk_far ?_ NB101_135.out _; (with_reducible repeat (first | refine blk_drewN ?_ _ | refine blk_drew ?_ | refine blk_alloc ?_ _)); refine blk_far ?_ NB101_135.out _; (with_reducible repeat (first | refine blk_drewN ?_ _ | refine blk_drew ?_ | refine blk_alloc ?_ _)); exact BK101.out) hb); have n9_ := Aside0.mk (blk_below (g := gb118) (o := .cells #[.int .i8 t110, .slice Ao23 t111.length co23, .slice Ao24 t114.length co24] 30 (0, 0)) (by (with_reducible repeat (first | refine blk_drewN ?_ _ | refine blk_drew ?_ | refine blk_alloc ?_ _)); refine blk_far ?_ NB118_135.out _; (with_reducible repeat (first | refine blk_drewN ?_ _ | refine blk_drew ?_ | refine blk_alloc ?_ _)); refine blk_far ?_ NB118_135.out _; (with_reducible repeat (first | refine blk_drewN ?_ _ | refine blk_drew ?_ | refine blk_alloc ?_ _)); refine blk_far ?_ NB118_135.out _; (with_reducible repeat (first | refine blk_drewN ?_ _ | refine blk_drew ?_ | refine blk_alloc ?_ _)); exact BK118.out) hb); have n10_ := Aside0.mk (blk_below (g := gb126) (o := .cells #[.int .i8 t119, .slice Ao31 t120.length co31, .slice Ao32 t123.length co32] 30 (0, 0)) (by (with_reducible repeat (first | refine blk_drewN ?_ _ | refine blk_drew ?_ | refine blk_alloc ?_ _)); refine blk_far ?_ NB126_135.out _; (with_reducible repeat (first | refine blk_drewN ?_ _ | refine blk_drew ?_ | refine blk_alloc ?_ _)); refine blk_far ?_ NB126_135.out _; (with_reducible repeat (first | refine blk_drewN ?_ _ | refine blk_drew ?_ | refine blk_alloc ?_ _)); refine blk_far ?_ NB126_135.out _; (with_reducible repeat (first | refine blk_drewN ?_ _ | refine blk_drew ?_ | refine blk_alloc ?_ _)); exact BK126.out) hb); have n11_ := Aside0.mk (blk_below (g := gb135) (o := .cells #[.int .i8 t127, .slice Ao39 t128.length co39, .slice Ao40 t131.length co40] 30 (0, 0)) (by (with_reducible repeat (first | refine blk_drewN ?_ _ | refine blk_drew ?_ | refine blk_alloc ?_ _)); refine blk_put (cs := #[.int .i8 t127, .slice Ao39 t128.length co39, .slice none 0 0]) ?_ 2 _ rfl; (with_reducible repeat (first | refine blk_drewN ?_ _ | refine blk_drew ?_ | refine blk_alloc ?_ _)); refine blk_put (cs := #[.int .i8 t127, .slice none 0 0, .slice none 0 0]) ?_ 1 _ rfl; (with_reducible repeat (first | refine blk_drewN ?_ _ | refine blk_drew ?_ | refine blk_alloc ?_ _)); refine blk_put (cs := #[.int .i8 0, .slice none 0 0, .slice none 0 0]) ?_ 0 _ rfl; (with_reducible repeat (first | refine blk_drewN ?_ _ | refine blk_drew ?_ | refine blk_alloc ?_ _)); exact BK135.out) hb); have n12_ := Aside0.mk (below_step (by repeat (first | (with_reducible first | exact HB.out | apply below_alloc | apply pw_below_drewN | apply below_drew1 | refine below_set ?_ GE101.out | refine below_set ?_ GE118.out | refine below_set ?_ GE126.out | refine below_set ?_ GE135.out) | exact HB.out)) hb); clear HO106; clear HO109; clear HO113; clear HO116; clear HO122; clear HO125; clear HO130; clear HO133; clear BK101; clear BK118; clear BK126; clear BK135; clear HB; have HO106 := n0_; have HO109 := n1_; have HO113 := n2_; have HO116 := n3_; have HO122 := n4_; have HO125 := n5_; have HO130 := n6_; have HO133 := n7_; have BK101 := n8_; have BK118 := n9_; have BK126 := n10_; have BK135 := n11_; have HB := n12_; clear n0_ n1_ n2_ n3_ n4_ n5_ n6_ n7_ n8_ n9_ n10_ n11_ n12_; (try clear hb); (try clear hb2); (try clear hk); (try clear hi)))
        go_meet
        case rel => exact ⟨_, (true), (by first | rfl | (simp; done) | (simp [*]; done)), H', ⟨by first | omega | exact Nat.le_refl _⟩, ⟨by (with_reducible repeat (first | apply Kd.R_alloc | apply Kd.R_drewN | apply Kd.R_drew)); exact Kd.R_mono HO113.out (fun _ hk => ⟨hk.1.2, hk.2⟩)⟩, ⟨by (with_reducible repeat (first | apply Kd.R_alloc | apply Kd.R_drewN | apply Kd.R_drew)); exact Kd.R_mono HO116.out (fun _ hk => ⟨hk.1.2, hk.2⟩)⟩, ⟨by (with_reducible repeat (first | apply Kd.R_alloc | apply Kd.R_drewN | apply Kd.R_drew)); exact Kd.R_mono HO122.out (fun _ hk => ⟨hk.1.2, hk.2⟩)⟩, ⟨by (with_reducible repeat (first | apply Kd.R_alloc | apply Kd.R_drewN | apply Kd.R_drew)); exact Kd.R_mono HO125.out (fun _ hk => ⟨hk.1.2, hk.2⟩)⟩, ⟨by (with_reducible repeat (first | apply Kd.R_alloc | apply Kd.R_drewN | apply Kd.R_drew)); exact Kd.R_mono HO130.out (fun _ hk => ⟨hk.1.2, hk.2⟩)⟩, ⟨by (with_reducible repeat (first | apply Kd.R_alloc | apply Kd.R_drewN | apply Kd.R_drew)); exact Kd.R_mono HO133.out (fun _ hk => ⟨hk.1.2, hk.2⟩)⟩, ⟨by (with_reducible repeat (first | refine blk_drewN ?_ _ | refine blk_drew ?_ | refine blk_alloc ?_ _)); exact BK101.out⟩, ⟨by (with_reducible repeat (first | refine blk_drewN ?_ _ | refine blk_drew ?_ | refine blk_alloc ?_ _)); exact BK118.out⟩, ⟨by (with_reducible repeat (first | refine blk_drewN ?_ _ | refine blk_drew ?_ | refine blk_alloc ?_ _)); exact BK126.out⟩, ⟨by (with_reducible repeat (first | refine blk_drewN ?_ _ | refine blk_drew ?_ | refine blk_alloc ?_ _)); exact BK135.out⟩, ⟨by repeat (first | (with_reducible first | exact HB.out | apply below_alloc | apply pw_below_drewN | apply below_drew1 | refine below_set ?_ GE101.out | refine below_set ?_ GE118.out | refine below_set ?_ GE126.out | refine below_set ?_ GE135.out) | exact HB.out)⟩⟩
    case rest =>
      clear HC11
      try clear c1
      try clear c2
      try clear p2
      try clear c3
      try clear c3b0
      try clear c4
      try clear c5
      try clear c9
      try clear c11
      try clear c13
      try clear c16
      try clear c17
      try clear c21
      try clear c28
      try clear c29
      try clear c35
      try clear c36
      try clear c37
      try clear c42
      try clear c43
      try clear c44
      try clear c45
      try clear c47
      try clear c48
      try clear c51
      try clear c52
      try clear c53
      try clear c55
      try clear c56
      try clear hcz13_0
      try clear hcz13_1
      try clear hcz13_2
      try clear hcz15_0
      try clear hcz15_1
      try clear hcz15_2
      try clear hcz22_0
      try clear hcz22_1
      try clear hcz22_2
      try clear hcz25_0
      try clear hcz25_1
      try clear hcz25_2
      try clear hcz30_0
      try clear hcz30_1
      try clear hcz30_2
      try clear hcz38_0
      try clear hcz38_1
      try clear hcz38_2
      try clear hcz46_0
      try clear hcz46_1
      try clear hcz46_2
      try clear hcz49_0
      try clear hcz49_1
      try clear hcz49_2
      try clear hcz54_0
      try clear hcz54_1
      try clear hcz54_2
      try clear hcz57_0
      try clear hcz57_1
      try clear hcz57_2
      try clear hcz5_0
      try clear hcz5_1
      try clear hcz5_2
      try clear hfz13_0
      try clear hfz13_1
      try clear hfz13_2
      try clear hfz15_0
      try clear hfz15_1
      try clear hfz15_2
      try clear hfz22_0
      try clear hfz22_1
      try clear hfz22_2
      try clear hfz25_0
      try clear hfz25_1
      try clear hfz25_2
      try clear hfz30_0
      try clear hfz30_1
      try clear hfz30_2
      try clear hfz38_0
      try clear hfz38_1
      try clear hfz38_2
      try clear hfz46_0
      try clear hfz46_1
      try clear hfz46_2
      try clear hfz49_0
      try clear hfz49_1
      try clear hfz49_2
      try clear hfz54_0
      try clear hfz54_1
      try clear hfz54_2
      try clear hfz57_0
      try clear hfz57_1
      try clear hfz57_2
      try clear hfz5_0
      try clear hfz5_1
      try clear hfz5_2
      obtain ⟨kq, x40_10, rfl, HA, HJ10, HO_119001, HO_119002, HO_127001, HO_127002, HO_136001, HO_136002, BK101, BK118, BK126, BK135, HB⟩ := hcut
      cases kq with
      | zero => exact absurd HA.out (by simp [laws_FnExactMergeCircuit.j0])
      | succ kj10 =>
        have H := HA.out
        clear HA
        simp only [laws_FnExactMergeCircuit.j0] at H
        by_cases c59 : x40_10 = true
        · subst c59
          have H1 : (none) = some r := by rw [if_pos rfl] at H; exact H
          clear H
          have H := H1
          clear H1
          exact absurd H (by simp)
        · replace c59 := Bool.eq_false_iff.mpr c59
          subst c59
          have H1 : ((laws_toCircuit.f kj10 a0_0 l0_1 l0_2).bind fun bt137 => ((laws_eqCircuit.f kj10 t119 t120 t123 bt137.1 bt137.2.1 bt137.2.2).bind fun t144 => (if t144 = true then ((laws_markCircuit.f kj10 t119 t120 t123 1).bind fun bt145 => (if bt145.1 < 0 then (laws_FnExactMergeCircuit.j1 kj10 t117 true a0_0 l0_1 l0_2 t110 t111 t114 t127 t128 t131) else ((laws_eqCircuit.f kj10 t127 t128 t131 t110 t111 t114).bind fun t148 => (if t148 = true then (laws_FnExactMergeCircuit.j1 kj10 t117 (t134 != t117) a0_0 l0_1 l0_2 t110 t111 t114 t127 t128 t131) else (laws_FnExactMergeCircuit.j1 kj10 t117 true a0_0 l0_1 l0_2 t110 t111 t114 t127 t128 t131))))) else (none)))) = some r := by rw [if_neg (show ¬ (false = true) by decide)] at H; exact H
          clear H
          have H := H1
          clear H1
          replace H := Option.bind_eq_some_iff.mp H
          obtain ⟨⟨t137, t138, t141⟩, A600, H⟩ := H
          replace H : ((laws_eqCircuit.f kj10 t119 t120 t123 t137 t138 t141).bind fun t144 => (if t144 = true then ((laws_markCircuit.f kj10 t119 t120 t123 1).bind fun bt145 => (if bt145.1 < 0 then (laws_FnExactMergeCircuit.j1 kj10 t117 true a0_0 l0_1 l0_2 t110 t111 t114 t127 t128 t131) else ((laws_eqCircuit.f kj10 t127 t128 t131 t110 t111 t114).bind fun t148 => (if t148 = true then (laws_FnExactMergeCircuit.j1 kj10 t117 (t134 != t117) a0_0 l0_1 l0_2 t110 t111 t114 t127 t128 t131) else (laws_FnExactMergeCircuit.j1 kj10 t117 true a0_0 l0_1 l0_2 t110 t111 t114 t127 t128 t131))))) else (none))) = some r := H
          have A60 := Aside0.mk A600
          clear A600
          replace H := Option.bind_eq_some_iff.mp H
          obtain ⟨t144, A610, H⟩ := H
          replace H : (if t144 = true then ((laws_markCircuit.f kj10 t119 t120 t123 1).bind fun bt145 => (if bt145.1 < 0 then (laws_FnExactMergeCircuit.j1 kj10 t117 true a0_0 l0_1 l0_2 t110 t111 t114 t127 t128 t131) else ((laws_eqCircuit.f kj10 t127 t128 t131 t110 t111 t114).bind fun t148 => (if t148 = true then (laws_FnExactMergeCircuit.j1 kj10 t117 (t134 != t117) a0_0 l0_1 l0_2 t110 t111 t114 t127 t128 t131) else (laws_FnExactMergeCircuit.j1 kj10 t117 true a0_0 l0_1 l0_2 t110 t111 t114 t127 t128 t131))))) else (none)) = some r := H
          have A61 := Aside0.mk A610
          clear A610
          by_cases c62 : t144 = true
          · subst c62
            have H1 : ((laws_markCircuit.f kj10 t119 t120 t123 1).bind fun bt145 => (if bt145.1 < 0 then (laws_FnExactMergeCircuit.j1 kj10 t117 true a0_0 l0_1 l0_2 t110 t111 t114 t127 t128 t131) else ((laws_eqCircuit.f kj10 t127 t128 t131 t110 t111 t114).bind fun t148 => (if t148 = true then (laws_FnExactMergeCircuit.j1 kj10 t117 (t134 != t117) a0_0 l0_1 l0_2 t110 t111 t114 t127 t128 t131) else (laws_FnExactMergeCircuit.j1 kj10 t117 true a0_0 l0_1 l0_2 t110 t111 t114 t127 t128 t131))))) = some r := by rw [if_pos rfl] at H; exact H
            clear H
            have H := H1
            clear H1
            replace H := Option.bind_eq_some_iff.mp H
            obtain ⟨⟨t145, t146, t147⟩, A630, H⟩ := H
            replace H : (if t145 < 0 then (laws_FnExactMergeCircuit.j1 kj10 t117 true a0_0 l0_1 l0_2 t110 t111 t114 t127 t128 t131) else ((laws_eqCircuit.f kj10 t127 t128 t131 t110 t111 t114).bind fun t148 => (if t148 = true then (laws_FnExactMergeCircuit.j1 kj10 t117 (t134 != t117) a0_0 l0_1 l0_2 t110 t111 t114 t127 t128 t131) else (laws_FnExactMergeCircuit.j1 kj10 t117 true a0_0 l0_1 l0_2 t110 t111 t114 t127 t128 t131)))) = some r := H
            have A63 := Aside0.mk A630
            clear A630
            have HC64 := Aside0.mk H
            clear H
            try go_wp2
            have n0_ := Aside0.mk (Kd.R_drew HO_119001.out)
            have n1_ := Aside0.mk (Kd.R_drew HO_119002.out)
            have n2_ := Aside0.mk (Kd.R_drew HO_127001.out)
            have n3_ := Aside0.mk (Kd.R_drew HO_127002.out)
            have n4_ := Aside0.mk (Kd.R_drew HO_136001.out)
            have n5_ := Aside0.mk (Kd.R_drew HO_136002.out)
            have n6_ := Aside0.mk (blk_drew BK101.out)
            have n7_ := Aside0.mk (blk_drew BK118.out)
            have n8_ := Aside0.mk (blk_drew BK126.out)
            have n9_ := Aside0.mk (blk_drew BK135.out)
            have n10_ := Aside0.mk (below_drew1 HB.out)
            clear HO_119001
            clear HO_119002
            clear HO_127001
            clear HO_127002
            clear HO_136001
            clear HO_136002
            clear BK101
            clear BK118
            clear BK126
            clear BK135
            clear HB
            have HO_119001 := n0_
            have HO_119002 := n1_
            have HO_127001 := n2_
            have HO_127002 := n3_
            have HO_136001 := n4_
            have HO_136002 := n5_
            have BK101 := n6_
            have BK118 := n7_
            have BK126 := n8_
            have BK135 := n9_
            have HB := n10_
            clear n0_ n1_ n2_ n3_ n4_ n5_ n6_ n7_ n8_ n9_ n10_
            refine start_ (n := 5) (S := fun w' => w'.cell? ⟨gb126, 0, none⟩ = some (.int .i8 t119) ∧ w'.cell? ⟨gb126, 1, none⟩ = some (.slice Ao31 t120.length co31) ∧ w'.cell? ⟨gb126, 2, none⟩ = some (.slice Ao32 t123.length co32) ∧ w'.cell? ⟨gb101, 0, none⟩ = some (.int .i8 a0_0) ∧ w'.cell? ⟨gb101, 1, none⟩ = some (.slice A0_1 l0_1.length c0_1) ∧ w'.cell? ⟨gb101, 2, none⟩ = some (.slice A0_2 l0_2.length c0_2)) (ds := []) #[false, false, false, false, false] (by kernel_rfl) rfl rfl ⟨(blk_cell BK126.out 0).trans rfl, (blk_cell BK126.out 1).trans rfl, (blk_cell BK126.out 2).trans rfl, (blk_cell BK101.out 0).trans rfl, (blk_cell BK101.out 1).trans rfl, (blk_cell BK101.out 2).trans rfl⟩ (fun hHeld => ?_)
            generalize wc.drew = w65 at HO_119001 HO_119002 HO_127001 HO_127002 HO_136001 HO_136002 BK101 BK118 BK126 BK135 HB hHeld ⊢
            refine take_ (i := 0) (N := some 41) (v := ?_) (a' := ?_) #[true, false, false, false, false] rfl rfl (by kernel_rfl) (fun _ _ _ h => h) (Or.inl ⟨by rfl, ?_⟩) hHeld ?_ ?_
            rotate_left
            · rintro w' ⟨s0, s1, s2, s3, s4, s5⟩
              go_simp
              with_reducible rfl
            rotate_left
            · simp only [Act.put, List.setIfInBounds_toArray, List.set_cons_zero, List.set_cons_succ, i64_w, i32_w]
              rfl
            refine take_ (i := 1) (N := some 42) (v := ?_) (a' := ?_) #[true, true, false, false, false] rfl rfl (by kernel_rfl) (fun _ _ _ h => h) (Or.inl ⟨by rfl, ?_⟩) hHeld ?_ ?_
            rotate_left
            · rintro w' ⟨s0, s1, s2, s3, s4, s5⟩
              go_simp
              with_reducible rfl
            rotate_left
            · simp only [Act.put, List.setIfInBounds_toArray, List.set_cons_zero, List.set_cons_succ, i64_w, i32_w]
              rfl
            refine one_ (i := 2) (N := some 43) #[true, true, true, false, false] rfl rfl (by kernel_rfl) (by decide) (fun K hK => ?_)
            refine goes_ Try.func11 (by kernel_rfl) rfl #[.agg #[.int .i8 a0_0, .slice A0_1 l0_1.length c0_1, .slice A0_2 l0_2.length c0_2]] (by rfl) rfl rfl (by (try simp only [List.map_toArray, List.map_cons, List.map_nil]); first | done | rfl | (simp only [List.length_drop, List.length_take]; rfl)) ?_
            with_reducible refine (laws_toCircuit.calls kj10 a0_0 _ _ l0_1 _ _ l0_2 t137 t138 t141 _ ?side1 ?side2 ?side3 ?side4 A60.out).mono ?_
            (case side1 => repeat (first | exact (Kd.C_below HR0_1.out HB.out) | (with_reducible refine Kd.C_alloc ?_ _) | (with_reducible refine Kd.C_drewN ?_ _) | (with_reducible refine Kd.C_drew ?_)))
            (case side2 => exact HC0_1.out)
            (case side3 => repeat (first | exact (Kd.C_below HR0_2.out HB.out) | (with_reducible refine Kd.C_alloc ?_ _) | (with_reducible refine Kd.C_drewN ?_ _) | (with_reducible refine Kd.C_drew ?_)))
            (case side4 => exact HC0_2.out)
            rintro e w66 ⟨v139, v142, rfl, ho0, ho1, hb⟩
            refine ⟨_, rfl, ?_⟩
            have n0_ := Aside0.mk (Kd.R_elder' (by (with_reducible repeat (first | apply Kd.R_alloc | apply Kd.R_drewN | apply Kd.R_drew)); exact HO_119001.out) (Kd.R_base ho0) hb)
            have n1_ := Aside0.mk (Kd.R_elder' (by (with_reducible repeat (first | apply Kd.R_alloc | apply Kd.R_drewN | apply Kd.R_drew)); exact HO_119002.out) (Kd.R_base ho1) hb)
            have n2_ := Aside0.mk (Kd.R_elder' (by (with_reducible repeat (first | apply Kd.R_alloc | apply Kd.R_drewN | apply Kd.R_drew)); exact HO_127001.out) (Kd.R_base ho0) hb)
            have n3_ := Aside0.mk (Kd.R_elder' (by (with_reducible repeat (first | apply Kd.R_alloc | apply Kd.R_drewN | apply Kd.R_drew)); exact HO_127002.out) (Kd.R_base ho1) hb)
            have n4_ := Aside0.mk (Kd.R_elder' (by (with_reducible repeat (first | apply Kd.R_alloc | apply Kd.R_drewN | apply Kd.R_drew)); exact HO_136001.out) (Kd.R_base ho0) hb)
            have n5_ := Aside0.mk (Kd.R_elder' (by (with_reducible repeat (first | apply Kd.R_alloc | apply Kd.R_drewN | apply Kd.R_drew)); exact HO_136002.out) (Kd.R_base ho1) hb)
            have n6_ := Aside0.mk (Kd.R_lower (Kd.R_new' (Kd.R_new' (Kd.R_new' ho0 (Kd.R_lt (by (with_reducible repeat (first | apply Kd.R_alloc | apply Kd.R_drewN | apply Kd.R_drew)); exact HO_119001.out))) (Kd.R_lt (by (with_reducible repeat (first | apply Kd.R_alloc | apply Kd.R_drewN | apply Kd.R_drew)); exact HO_127001.out))) (Kd.R_lt (by (with_reducible repeat (first | apply Kd.R_alloc | apply Kd.R_drewN | apply Kd.R_drew)); exact HO_136001.out))) (below_size (by repeat (first | (with_reducible first | exact HB.out | apply below_alloc | apply pw_below_drewN | apply below_drew1 | refine below_set ?_ GE101.out | refine below_set ?_ GE118.out | refine below_set ?_ GE126.out | refine below_set ?_ GE135.out) | exact HB.out))))
            have n7_ := Aside0.mk (Kd.R_lower (Kd.R_new' (Kd.R_new' (Kd.R_new' ho1 (Kd.R_lt (by (with_reducible repeat (first | apply Kd.R_alloc | apply Kd.R_drewN | apply Kd.R_drew)); exact HO_119002.out))) (Kd.R_lt (by (with_reducible repeat (first | apply Kd.R_alloc | apply Kd.R_drewN | apply Kd.R_drew)); exact HO_127002.out))) (Kd.R_lt (by (with_reducible repeat (first | apply Kd.R_alloc | apply Kd.R_drewN | apply Kd.R_drew)); exact HO_136002.out))) (below_size (by repeat (first | (with_reducible first | exact HB.out | apply below_alloc | apply pw_below_drewN | apply below_drew1 | refine below_set ?_ GE101.out | refine below_set ?_ GE118.out | refine below_set ?_ GE126.out | refine below_set ?_ GE135.out) | exact HB.out))))
            have n8_ := Aside0.mk (blk_below (g := gb101) (o := .cells #[.int .i8 a0_0, .slice A0_1 l0_1.length c0_1, .slice A0_2 l0_2.length c0_2] 26 (0, 0)) (by (with_reducible repeat (first | refine blk_drewN ?_ _ | refine blk_drew ?_ | refine blk_alloc ?_ _)); exact BK101.out) hb)
            have n9_ := Aside0.mk (blk_below (g := gb118) (o := .cells #[.int .i8 t110, .slice Ao23 t111.length co23, .slice Ao24 t114.length co24] 30 (0, 0)) (by (with_reducible repeat (first | refine blk_drewN ?_ _ | refine blk_drew ?_ | refine blk_alloc ?_ _)); exact BK118.out) hb)
            have n10_ := Aside0.mk (blk_below (g := gb126) (o := .cells #[.int .i8 t119, .slice Ao31 t120.length co31, .slice Ao32 t123.length co32] 30 (0, 0)) (by (with_reducible repeat (first | refine blk_drewN ?_ _ | refine blk_drew ?_ | refine blk_alloc ?_ _)); exact BK126.out) hb)
            have n11_ := Aside0.mk (blk_below (g := gb135) (o := .cells #[.int .i8 t127, .slice Ao39 t128.length co39, .slice Ao40 t131.length co40] 30 (0, 0)) (by (with_reducible repeat (first | refine blk_drewN ?_ _ | refine blk_drew ?_ | refine blk_alloc ?_ _)); exact BK135.out) hb)
            have n12_ := Aside0.mk (below_step (by repeat (first | (with_reducible first | exact HB.out | apply below_alloc | apply pw_below_drewN | apply below_drew1 | refine below_set ?_ GE101.out | refine below_set ?_ GE118.out | refine below_set ?_ GE126.out | refine below_set ?_ GE135.out) | exact HB.out)) hb)
            clear HO_119001
            clear HO_119002
            clear HO_127001
            clear HO_127002
            clear HO_136001
            clear HO_136002
            clear BK101
            clear BK118
            clear BK126
            clear BK135
            clear HB
            have HO_119001 := n0_
            have HO_119002 := n1_
            have HO_127001 := n2_
            have HO_127002 := n3_
            have HO_136001 := n4_
            have HO_136002 := n5_
            have HO140 := n6_
            have HO143 := n7_
            have BK101 := n8_
            have BK118 := n9_
            have BK126 := n10_
            have BK135 := n11_
            have HB := n12_
            clear n0_ n1_ n2_ n3_ n4_ n5_ n6_ n7_ n8_ n9_ n10_ n11_ n12_
            (try clear hb)
            (try clear hb2)
            (try clear hk)
            (try clear hi)
            (try clear ho0)
            (try clear ho1)
            obtain ⟨Ao67, co67, eo67⟩ := Kd.R_slice HO140.out
            (first | subst eo67 | (injection eo67 with f1_ f2_ f3_; have f4_ := f1_.symm; have f5_ := f3_.symm; clear f1_ f2_ f3_; subst f4_; subst f5_))
            obtain ⟨Ao68, co68, eo68⟩ := Kd.R_slice HO143.out
            (first | subst eo68 | (injection eo68 with f1_ f2_ f3_; have f4_ := f1_.symm; have f5_ := f3_.symm; clear f1_ f2_ f3_; subst f4_; subst f5_))
            refine hK.out _ _ ⟨(blk_cell BK126.out 0).trans rfl, (blk_cell BK126.out 1).trans rfl, (blk_cell BK126.out 2).trans rfl, (blk_cell BK101.out 0).trans rfl, (blk_cell BK101.out 1).trans rfl, (blk_cell BK101.out 2).trans rfl⟩ (fun hHeld => ?_)
            clear hK K
            refine norm_ (a' := ?_) ?_ ?_
            rotate_left
            · show Act.put _ (some 43) _ = _
              simp only [Act.put, List.setIfInBounds_toArray, List.set_cons_zero, List.set_cons_succ, i64_w, i32_w]
              rfl
            refine one_ (i := 3) (N := some 44) #[true, true, true, true, false] rfl rfl (by kernel_rfl) (by decide) (fun K hK => ?_)
            refine goes_ Try.func13 (by kernel_rfl) rfl #[.agg #[.int .i8 t119, .slice Ao31 t120.length co31, .slice Ao32 t123.length co32], .agg #[.int .i8 t137, .slice Ao67 t138.length co67, .slice Ao68 t141.length co68]] (by rfl) rfl rfl (by (try simp only [List.map_toArray, List.map_cons, List.map_nil]); first | done | rfl | (simp only [List.length_drop, List.length_take]; rfl)) ?_
            with_reducible refine (laws_eqCircuit.calls kj10 t119 _ _ t120 _ _ t123 t137 _ _ t138 _ _ t141 true _ ?side1 ?side2 ?side3 ?side4 ?side5 ?side6 ?side7 ?side8 A61.out).mono ?_
            (case side1 => repeat (first | exact (Kd.R_reads' HO_127001.out).2.2 | (with_reducible refine Kd.C_alloc ?_ _) | (with_reducible refine Kd.C_drewN ?_ _) | (with_reducible refine Kd.C_drew ?_)))
            (case side2 => exact (Kd.R_reads' HO_127001.out).2.1)
            (case side3 => repeat (first | exact (Kd.R_reads' HO_127002.out).2.2 | (with_reducible refine Kd.C_alloc ?_ _) | (with_reducible refine Kd.C_drewN ?_ _) | (with_reducible refine Kd.C_drew ?_)))
            (case side4 => exact (Kd.R_reads' HO_127002.out).2.1)
            (case side5 => repeat (first | exact (Kd.R_reads' HO140.out).2.2 | (with_reducible refine Kd.C_alloc ?_ _) | (with_reducible refine Kd.C_drewN ?_ _) | (with_reducible refine Kd.C_drew ?_)))
            (case side6 => exact (Kd.R_reads' HO140.out).2.1)
            (case side7 => repeat (first | exact (Kd.R_reads' HO143.out).2.2 | (with_reducible refine Kd.C_alloc ?_ _) | (with_reducible refine Kd.C_drewN ?_ _) | (with_reducible refine Kd.C_drew ?_)))
            (case side8 => exact (Kd.R_reads' HO143.out).2.1)
            rintro e w69 ⟨rfl, hb⟩
            refine ⟨_, rfl, ?_⟩
            have n0_ := Aside0.mk (Kd.R_below (by (with_reducible repeat (first | apply Kd.R_alloc | apply Kd.R_drewN | apply Kd.R_drew)); exact HO_119001.out) hb)
            have n1_ := Aside0.mk (Kd.R_below (by (with_reducible repeat (first | apply Kd.R_alloc | apply Kd.R_drewN | apply Kd.R_drew)); exact HO_119002.out) hb)
            have n2_ := Aside0.mk (Kd.R_below (by (with_reducible repeat (first | apply Kd.R_alloc | apply Kd.R_drewN | apply Kd.R_drew)); exact HO_127001.out) hb)
            have n3_ := Aside0.mk (Kd.R_below (by (with_reducible repeat (first | apply Kd.R_alloc | apply Kd.R_drewN | apply Kd.R_drew)); exact HO_127002.out) hb)
            have n4_ := Aside0.mk (Kd.R_below (by (with_reducible repeat (first | apply Kd.R_alloc | apply Kd.R_drewN | apply Kd.R_drew)); exact HO_136001.out) hb)
            have n5_ := Aside0.mk (Kd.R_below (by (with_reducible repeat (first | apply Kd.R_alloc | apply Kd.R_drewN | apply Kd.R_drew)); exact HO_136002.out) hb)
            have n6_ := Aside0.mk (Kd.R_below (by (with_reducible repeat (first | apply Kd.R_alloc | apply Kd.R_drewN | apply Kd.R_drew)); exact HO140.out) hb)
            have n7_ := Aside0.mk (Kd.R_below (by (with_reducible repeat (first | apply Kd.R_alloc | apply Kd.R_drewN | apply Kd.R_drew)); exact HO143.out) hb)
            have n8_ := Aside0.mk (blk_below (g := gb101) (o := .cells #[.int .i8 a0_0, .slice A0_1 l0_1.length c0_1, .slice A0_2 l0_2.length c0_2] 26 (0, 0)) (by (with_reducible repeat (first | refine blk_drewN ?_ _ | refine blk_drew ?_ | refine blk_alloc ?_ _)); exact BK101.out) hb)
            have n9_ := Aside0.mk (blk_below (g := gb118) (o := .cells #[.int .i8 t110, .slice Ao23 t111.length co23, .slice Ao24 t114.length co24] 30 (0, 0)) (by (with_reducible repeat (first | refine blk_drewN ?_ _ | refine blk_drew ?_ | refine blk_alloc ?_ _)); exact BK118.out) hb)
            have n10_ := Aside0.mk (blk_below (g := gb126) (o := .cells #[.int .i8 t119, .slice Ao31 t120.length co31, .slice Ao32 t123.length co32] 30 (0, 0)) (by (with_reducible repeat (first | refine blk_drewN ?_ _ | refine blk_drew ?_ | refine blk_alloc ?_ _)); exact BK126.out) hb)
            have n11_ := Aside0.mk (blk_below (g := gb135) (o := .cells #[.int .i8 t127, .slice Ao39 t128.length co39, .slice Ao40 t131.length co40] 30 (0, 0)) (by (with_reducible repeat (first | refine blk_drewN ?_ _ | refine blk_drew ?_ | refine blk_alloc ?_ _)); exact BK135.out) hb)
            have n12_ := Aside0.mk (below_step (by repeat (first | (with_reducible first | exact HB.out | apply below_alloc | apply pw_below_drewN | apply below_drew1 | refine below_set ?_ GE101.out | refine below_set ?_ GE118.out | refine below_set ?_ GE126.out | refine below_set ?_ GE135.out) | exact HB.out)) hb)
            clear HO_119001
            clear HO_119002
            clear HO_127001
            clear HO_127002
            clear HO_136001
            clear HO_136002
            clear HO140
            clear HO143
            clear BK101
            clear BK118
            clear BK126
            clear BK135
            clear HB
            have HO_119001 := n0_
            have HO_119002 := n1_
            have HO_127001 := n2_
            have HO_127002 := n3_
            have HO_136001 := n4_
            have HO_136002 := n5_
            have HO140 := n6_
            have HO143 := n7_
            have BK101 := n8_
            have BK118 := n9_
            have BK126 := n10_
            have BK135 := n11_
            have HB := n12_
            clear n0_ n1_ n2_ n3_ n4_ n5_ n6_ n7_ n8_ n9_ n10_ n11_ n12_
            (try clear hb)
            (try clear hb2)
            (try clear hk)
            (try clear hi)
            refine hK.out _ _ ⟨(blk_cell BK126.out 0).trans rfl, (blk_cell BK126.out 1).trans rfl, (blk_cell BK126.out 2).trans rfl, (blk_cell BK101.out 0).trans rfl, (blk_cell BK101.out 1).trans rfl, (blk_cell BK101.out 2).trans rfl⟩ (fun hHeld => ?_)
            clear hK K
            refine norm_ (a' := ?_) ?_ ?_
            rotate_left
            · show Act.put _ (some 44) _ = _
              simp only [Act.put, List.setIfInBounds_toArray, List.set_cons_zero, List.set_cons_succ, i64_w, i32_w]
              rfl
            refine pure_ (i := 4) (N := some 45) (v := ?_) (a' := ?_) #[true, true, true, true, true] rfl rfl (by kernel_rfl) (fun _ _ _ h => h) (Or.inl ⟨by rfl, ?_⟩) ?_ ?_
            rotate_left
            · intro w'
              go_simp
              with_reducible rfl
            rotate_left
            · simp only [Act.put, List.setIfInBounds_toArray, List.set_cons_zero, List.set_cons_succ, i64_w, i32_w]
              rfl
            refine done_ (by kernel_rfl) ?_
            have hnb70 := NB126_101.out
            have hnc70 := NB101_126.out
            have hnb71 := NB126_118.out
            have hnc71 := NB118_126.out
            have hnb72 := NB126_135.out
            have hnc72 := NB135_126.out
            have hcz73_0 : w69.cell? ⟨gb126, 0, none⟩ = some (.int .i8 t119) := (blk_cell BK126.out 0).trans rfl
            have hcz73_1 : w69.cell? ⟨gb126, 1, none⟩ = some (.slice Ao31 t120.length co31) := (blk_cell BK126.out 1).trans rfl
            have hcz73_2 : w69.cell? ⟨gb126, 2, none⟩ = some (.slice Ao32 t123.length co32) := (blk_cell BK126.out 2).trans rfl
            have hfz73_0 := blk_frozen BK126.out 0
            have hfz73_1 := blk_frozen BK126.out 1
            have hfz73_2 := blk_frozen BK126.out 2
            go_upto_region 14 with (first | ((with_reducible refine gate_callee (f := 14) rfl ?_); refine goesL_ (some 48) rfl rfl Try.func14 (by kernel_rfl) rfl #[.agg #[.int .i8 t119, .slice Ao31 t120.length co31, .slice Ao32 t123.length co32], .int .i64 1] rfl (by (try simp only [List.map_toArray, List.map_cons, List.map_nil]); first | done | rfl | (simp only [List.length_drop, List.length_take]; rfl)) ?_; (with_reducible refine (laws_markCircuit.calls kj10 t119 (fun k_ => some k_ = (.slice Ao31 t120.length co31 : Value).ownBlock) (.slice Ao31 t120.length co31) t120 (fun k_ => some k_ = (.slice Ao32 t123.length co32 : Value).ownBlock) (.slice Ao32 t123.length co32) t123 1 t145 t146 t147 w _ ?side1 ?side2 ?side3 A63.out).mono ?_); (case side1 => repeat (first | (with_reducible first | exact HB.out | apply below_alloc | apply pw_below_drewN | apply below_drew1 | refine below_set ?_ GE101.out | refine below_set ?_ GE118.out | refine below_set ?_ GE126.out | refine below_set ?_ GE135.out) | exact HB.out)); (case side2 => exact Kd.R_tight rfl HO_127001.out); (case side3 => exact Kd.R_tight rfl HO_127002.out); rintro e w74 ⟨rfl, hy0, hy1, hb, hkp⟩; refine ⟨_, rfl, ?_⟩; have n0_ := Aside0.mk (Kd.R_mono (ok' := fun k_ => some k_ ≠ (.slice Ao31 t120.length co31 : Value).ownBlock ∧ some k_ ≠ (.slice Ao39 t128.length co39 : Value).ownBlock ∧ some k_ ≠ (.slice Ao67 t138.length co67 : Value).ownBlock) (Kd.R_keptB ((Kd.R_apart' HO_119001.out (Kd.R_typed HO_127002.out) (by decide))) hkp (fun k_ hk_ hs_ => Or.elim hs_ (fun e_ => (hk_.1.1.1) e_) (fun e_ => (hk_.2) e_))) (fun k_ hk_ => ⟨hk_.1.1.1.1, hk_.1.1.1.2, hk_.1.1.2⟩)); have n1_ := Aside0.mk (Kd.R_mono (ok' := fun k_ => some k_ ≠ (.slice Ao32 t123.length co32 : Value).ownBlock ∧ some k_ ≠ (.slice Ao40 t131.length co40 : Value).ownBlock ∧ some k_ ≠ (.slice Ao68 t141.length co68 : Value).ownBlock) (Kd.R_keptB ((Kd.R_apart' HO_119002.out (Kd.R_typed HO_127001.out) (by decide))) hkp (fun k_ hk_ hs_ => Or.elim hs_ (fun e_ => (hk_.2) e_) (fun e_ => (hk_.1.1.1) e_))) (fun k_ hk_ => ⟨hk_.1.1.1.1, hk_.1.1.1.2, hk_.1.1.2⟩)); have n2_ := Aside0.mk (Kd.R_reok rfl hy0 (fun k_ e_ => HO_127001.out.1 k_ e_)); have n3_ := Aside0.mk (Kd.R_reok rfl hy1 (fun k_ e_ => HO_127002.out.1 k_ e_)); have n4_ := Aside0.mk (Kd.R_mono (ok' := fun k_ => some k_ ≠ (.slice Ao23 t111.length co23 : Value).ownBlock ∧ some k_ ≠ (.slice Ao31 t120.length co31 : Value).ownBlock ∧ some k_ ≠ (.slice Ao67 t138.length co67 : Value).ownBlock) (Kd.R_keptB ((Kd.R_apart' HO_136001.out (Kd.R_typed HO_127002.out) (by decide))) hkp (fun k_ hk_ hs_ => Or.elim hs_ (fun e_ => (hk_.1.1.2) e_) (fun e_ => (hk_.2) e_))) (fun k_ hk_ => ⟨hk_.1.1.1.1, hk_.1.1.1.2, hk_.1.1.2⟩)); have n5_ := Aside0.mk (Kd.R_mono (ok' := fun k_ => some k_ ≠ (.slice Ao24 t114.length co24 : Value).ownBlock ∧ some k_ ≠ (.slice Ao32 t123.length co32 : Value).ownBlock ∧ some k_ ≠ (.slice Ao68 t141.length co68 : Value).ownBlock) (Kd.R_keptB ((Kd.R_apart' HO_136002.out (Kd.R_typed HO_127001.out) (by decide))) hkp (fun k_ hk_ hs_ => Or.elim hs_ (fun e_ => (hk_.2) e_) (fun e_ => (hk_.1.1.2) e_))) (fun k_ hk_ => ⟨hk_.1.1.1.1, hk_.1.1.1.2, hk_.1.1.2⟩)); have n6_ := Aside0.mk (blk_kept (by (with_reducible repeat (first | refine blk_drewN ?_ _ | refine blk_drew ?_ | refine blk_alloc ?_ _)); exact BK101.out) hkp (fun hs_ => Or.elim hs_ (fun e_ => (fun e_ => (Kd.R_ne HO_127001.out BK101.out (by decide)) e_) e_) (fun e_ => (fun e_ => (Kd.R_ne HO_127002.out BK101.out (by decide)) e_) e_))); have n7_ := Aside0.mk (blk_kept (by (with_reducible repeat (first | refine blk_drewN ?_ _ | refine blk_drew ?_ | refine blk_alloc ?_ _)); exact BK118.out) hkp (fun hs_ => Or.elim hs_ (fun e_ => (fun e_ => (Kd.R_ne HO_127001.out BK118.out (by decide)) e_) e_) (fun e_ => (fun e_ => (Kd.R_ne HO_127002.out BK118.out (by decide)) e_) e_))); have n8_ := Aside0.mk (blk_kept (by (with_reducible repeat (first | refine blk_drewN ?_ _ | refine blk_drew ?_ | refine blk_alloc ?_ _)); exact BK126.out) hkp (fun hs_ => Or.elim hs_ (fun e_ => (fun e_ => (Kd.R_ne HO_127001.out BK126.out (by decide)) e_) e_) (fun e_ => (fun e_ => (Kd.R_ne HO_127002.out BK126.out (by decide)) e_) e_))); have n9_ := Aside0.mk (blk_kept (by (with_reducible repeat (first | refine blk_drewN ?_ _ | refine blk_drew ?_ | refine blk_alloc ?_ _)); exact BK135.out) hkp (fun hs_ => Or.elim hs_ (fun e_ => (fun e_ => (Kd.R_ne HO_127001.out BK135.out (by decide)) e_) e_) (fun e_ => (fun e_ => (Kd.R_ne HO_127002.out BK135.out (by decide)) e_) e_))); have n10_ := Aside0.mk (Kd.R_mono (ok' := fun k_ => some k_ ≠ (.slice Ao23 t111.length co23 : Value).ownBlock ∧ some k_ ≠ (.slice Ao31 t120.length co31 : Value).ownBlock ∧ some k_ ≠ (.slice Ao39 t128.length co39 : Value).ownBlock) (Kd.R_keptB ((Kd.R_apart' HO140.out (Kd.R_typed HO_127002.out) (by decide))) hkp (fun k_ hk_ hs_ => Or.elim hs_ (fun e_ => (hk_.1.1.2) e_) (fun e_ => (hk_.2) e_))) (fun k_ hk_ => ⟨hk_.1.1.1.1.2, hk_.1.1.1.2, hk_.1.1.2⟩)); have n11_ := Aside0.mk (Kd.R_mono (ok' := fun k_ => some k_ ≠ (.slice Ao24 t114.length co24 : Value).ownBlock ∧ some k_ ≠ (.slice Ao32 t123.length co32 : Value).ownBlock ∧ some k_ ≠ (.slice Ao40 t131.length co40 : Value).ownBlock) (Kd.R_keptB ((Kd.R_apart' HO143.out (Kd.R_typed HO_127001.out) (by decide))) hkp (fun k_ hk_ hs_ => Or.elim hs_ (fun e_ => (hk_.2) e_) (fun e_ => (hk_.1.1.2) e_))) (fun k_ hk_ => ⟨hk_.1.1.1.1.2, hk_.1.1.1.2, hk_.1.1.2⟩)); have n12_ := Aside0.mk (hb); clear HO_119001; clear HO_119002; clear HO_127001; clear HO_127002; clear HO_136001; clear HO_136002; clear BK101; clear BK118; clear BK126; clear BK135; clear HO140; clear HO143; clear HB; have HO_119001 := n0_; have HO_119002 := n1_; have HO_127001 := n2_; have HO_127002 := n3_; have HO_136001 := n4_; have HO_136002 := n5_; have BK101 := n6_; have BK118 := n7_; have BK126 := n8_; have BK135 := n9_; have HO140 := n10_; have HO143 := n11_; have HB := n12_; clear n0_ n1_ n2_ n3_ n4_ n5_ n6_ n7_ n8_ n9_ n10_ n11_ n12_; (try clear hb); (try clear hkp); (try clear hy0); (try clear hy1)))
            (try simp only [Act.put, List.setIfInBounds_toArray, List.set_cons_zero, List.set_cons_succ])
            go_cut [61] (fun v61 wc => ∃ (kq : Nat) (x61_63 : Bool), v61 = .bool x61_63 ∧ Aside0 (laws_FnExactMergeCircuit.j1 kq t117 x61_63 a0_0 l0_1 l0_2 t110 t111 t114 t127 t128 t131 = some r) ∧ Aside0 (kq ≤ kj10) ∧ Aside0 (Kd.R k68 68 wc w.heap.size (fun k_ => some k_ ≠ ((.slice Ao31 t120.length co31) : Value).ownBlock ∧ some k_ ≠ ((.slice Ao39 t128.length co39) : Value).ownBlock) (.slice Ao23 t111.length co23) t111) ∧ Aside0 (Kd.R (Kd.int .i16) 66 wc w.heap.size (fun k_ => some k_ ≠ ((.slice Ao32 t123.length co32) : Value).ownBlock ∧ some k_ ≠ ((.slice Ao40 t131.length co40) : Value).ownBlock) (.slice Ao24 t114.length co24) t114) ∧ Aside0 (Kd.R k68 68 wc w.heap.size (fun k_ => some k_ ≠ ((.slice Ao23 t111.length co23) : Value).ownBlock ∧ some k_ ≠ ((.slice Ao39 t128.length co39) : Value).ownBlock) (.slice Ao31 t120.length co31) t146) ∧ Aside0 (Kd.R (Kd.int .i16) 66 wc w.heap.size (fun k_ => some k_ ≠ ((.slice Ao24 t114.length co24) : Value).ownBlock ∧ some k_ ≠ ((.slice Ao40 t131.length co40) : Value).ownBlock) (.slice Ao32 t123.length co32) t147) ∧ Aside0 (Kd.R k68 68 wc w.heap.size (fun k_ => some k_ ≠ ((.slice Ao23 t111.length co23) : Value).ownBlock ∧ some k_ ≠ ((.slice Ao31 t120.length co31) : Value).ownBlock) (.slice Ao39 t128.length co39) t128) ∧ Aside0 (Kd.R (Kd.int .i16) 66 wc w.heap.size (fun k_ => some k_ ≠ ((.slice Ao24 t114.length co24) : Value).ownBlock ∧ some k_ ≠ ((.slice Ao32 t123.length co32) : Value).ownBlock) (.slice Ao40 t131.length co40) t131) ∧ Aside0 (wc.heap[gb101]? = some (.cells #[.int .i8 a0_0, (.slice A0_1 l0_1.length c0_1), (.slice A0_2 l0_2.length c0_2)] 26 (0, 0))) ∧ Aside0 (wc.heap[gb118]? = some (.cells #[.int .i8 t110, (.slice Ao23 t111.length co23), (.slice Ao24 t114.length co24)] 30 (0, 0))) ∧ Aside0 (wc.heap[gb126]? = some (.cells #[.int .i8 t119, (.slice Ao31 t120.length co31), (.slice Ao32 t123.length co32)] 30 (0, 0))) ∧ Aside0 (wc.heap[gb135]? = some (.cells #[.int .i8 t127, (.slice Ao39 t128.length co39), (.slice Ao40 t131.length co40)] 30 (0, 0))) ∧ Aside0 (Below w.heap.size w wc))
            case first =>
              have H := HC64.out
              clear HC64
              by_cases c75 : t145 < 0
              · rw [if_pos c75] at H
                have c75b0 : decide (t145 < 0) = true := decide_eq_true c75
                clear c75
                (first | rw [c75b0] | (simp only [i64_w, i32_w]; rw [c75b0]) | skip)
                have H' := Aside0.mk H
                clear H
                go_wp2
                go_meet
                case rel => exact ⟨_, (true), (by first | rfl | (simp; done) | (simp [*]; done)), H', ⟨by have := HJ10.out; first | omega | exact Nat.le_refl _⟩, ⟨by (with_reducible repeat (first | apply Kd.R_alloc | apply Kd.R_drewN | apply Kd.R_drew)); exact Kd.R_mono HO_119001.out (fun _ hk => ⟨hk.1, hk.2.1⟩)⟩, ⟨by (with_reducible repeat (first | apply Kd.R_alloc | apply Kd.R_drewN | apply Kd.R_drew)); exact Kd.R_mono HO_119002.out (fun _ hk => ⟨hk.1, hk.2.1⟩)⟩, ⟨by (with_reducible repeat (first | apply Kd.R_alloc | apply Kd.R_drewN | apply Kd.R_drew)); exact Kd.R_mono HO_127001.out (fun _ hk => ⟨hk.1.1, hk.1.2⟩)⟩, ⟨by (with_reducible repeat (first | apply Kd.R_alloc | apply Kd.R_drewN | apply Kd.R_drew)); exact Kd.R_mono HO_127002.out (fun _ hk => ⟨hk.1.1, hk.1.2⟩)⟩, ⟨by (with_reducible repeat (first | apply Kd.R_alloc | apply Kd.R_drewN | apply Kd.R_drew)); exact Kd.R_mono HO_136001.out (fun _ hk => ⟨hk.1, hk.2.1⟩)⟩, ⟨by (with_reducible repeat (first | apply Kd.R_alloc | apply Kd.R_drewN | apply Kd.R_drew)); exact Kd.R_mono HO_136002.out (fun _ hk => ⟨hk.1, hk.2.1⟩)⟩, ⟨by (with_reducible repeat (first | refine blk_drewN ?_ _ | refine blk_drew ?_ | refine blk_alloc ?_ _)); exact BK101.out⟩, ⟨by (with_reducible repeat (first | refine blk_drewN ?_ _ | refine blk_drew ?_ | refine blk_alloc ?_ _)); exact BK118.out⟩, ⟨by (with_reducible repeat (first | refine blk_drewN ?_ _ | refine blk_drew ?_ | refine blk_alloc ?_ _)); exact BK126.out⟩, ⟨by (with_reducible repeat (first | refine blk_drewN ?_ _ | refine blk_drew ?_ | refine blk_alloc ?_ _)); exact BK135.out⟩, ⟨by repeat (first | (with_reducible first | exact HB.out | apply below_alloc | apply pw_below_drewN | apply below_drew1 | refine below_set ?_ GE101.out | refine below_set ?_ GE118.out | refine below_set ?_ GE126.out | refine below_set ?_ GE135.out) | exact HB.out)⟩⟩
              · rw [if_neg c75] at H
                have c75b0 : decide (t145 < 0) = false := decide_eq_false c75
                clear c75
                (first | rw [c75b0] | (simp only [i64_w, i32_w]; rw [c75b0]) | skip)
                replace H := Option.bind_eq_some_iff.mp H
                obtain ⟨t148, A760, H⟩ := H
                replace H : (if t148 = true then (laws_FnExactMergeCircuit.j1 kj10 t117 (t134 != t117) a0_0 l0_1 l0_2 t110 t111 t114 t127 t128 t131) else (laws_FnExactMergeCircuit.j1 kj10 t117 true a0_0 l0_1 l0_2 t110 t111 t114 t127 t128 t131)) = some r := H
                have A76 := Aside0.mk A760
                clear A760
                by_cases c77 : t148 = true
                · subst c77
                  have H1 : (laws_FnExactMergeCircuit.j1 kj10 t117 (t134 != t117) a0_0 l0_1 l0_2 t110 t111 t114 t127 t128 t131) = some r := by rw [if_pos rfl] at H; exact H
                  clear H
                  have H := H1
                  clear H1
                  have H' := Aside0.mk H
                  clear H
                  have hnb78 := NB135_101.out
                  have hnc78 := NB101_135.out
                  have hnb79 := NB135_118.out
                  have hnc79 := NB118_135.out
                  have hnb80 := NB135_126.out
                  have hnc80 := NB126_135.out
                  have hcz81_0 : w74.cell? ⟨gb135, 0, none⟩ = some (.int .i8 t127) := (blk_cell BK135.out 0).trans rfl
                  have hcz81_1 : w74.cell? ⟨gb135, 1, none⟩ = some (.slice Ao39 t128.length co39) := (blk_cell BK135.out 1).trans rfl
                  have hcz81_2 : w74.cell? ⟨gb135, 2, none⟩ = some (.slice Ao40 t131.length co40) := (blk_cell BK135.out 2).trans rfl
                  have hfz81_0 := blk_frozen BK135.out 0
                  have hfz81_1 := blk_frozen BK135.out 1
                  have hfz81_2 := blk_frozen BK135.out 2
                  have hnb82 := NB118_101.out
                  have hnc82 := NB101_118.out
                  have hnb83 := NB118_126.out
                  have hnc83 := NB126_118.out
                  have hcz84_0 : w74.cell? ⟨gb118, 0, none⟩ = some (.int .i8 t110) := (blk_cell BK118.out 0).trans rfl
                  have hcz84_1 : w74.cell? ⟨gb118, 1, none⟩ = some (.slice Ao23 t111.length co23) := (blk_cell BK118.out 1).trans rfl
                  have hcz84_2 : w74.cell? ⟨gb118, 2, none⟩ = some (.slice Ao24 t114.length co24) := (blk_cell BK118.out 2).trans rfl
                  have hfz84_0 := blk_frozen BK118.out 0
                  have hfz84_1 := blk_frozen BK118.out 1
                  have hfz84_2 := blk_frozen BK118.out 2
                  go_wp2_with (first | (go_at_call 13; (with_reducible refine (laws_eqCircuit.calls kj10 t127 _ _ t128 _ _ t131 t110 _ _ t111 _ _ t114 true _ ?side1 ?side2 ?side3 ?side4 ?side5 ?side6 ?side7 ?side8 A76.out).mono ?_); (case side1 => repeat (first | exact (Kd.R_reads' HO_136001.out).2.2 | (with_reducible refine Kd.C_alloc ?_ _) | (with_reducible refine Kd.C_drewN ?_ _) | (with_reducible refine Kd.C_drew ?_))); (case side2 => exact (Kd.R_reads' HO_136001.out).2.1); (case side3 => repeat (first | exact (Kd.R_reads' HO_136002.out).2.2 | (with_reducible refine Kd.C_alloc ?_ _) | (with_reducible refine Kd.C_drewN ?_ _) | (with_reducible refine Kd.C_drew ?_))); (case side4 => exact (Kd.R_reads' HO_136002.out).2.1); (case side5 => repeat (first | exact (Kd.R_reads' HO_119001.out).2.2 | (with_reducible refine Kd.C_alloc ?_ _) | (with_reducible refine Kd.C_drewN ?_ _) | (with_reducible refine Kd.C_drew ?_))); (case side6 => exact (Kd.R_reads' HO_119001.out).2.1); (case side7 => repeat (first | exact (Kd.R_reads' HO_119002.out).2.2 | (with_reducible refine Kd.C_alloc ?_ _) | (with_reducible refine Kd.C_drewN ?_ _) | (with_reducible refine Kd.C_drew ?_))); (case side8 => exact (Kd.R_reads' HO_119002.out).2.1); rintro e w85 ⟨rfl, hb⟩; have n0_ := Aside0.mk (Kd.R_below (by (with_reducible repeat (first | apply Kd.R_alloc | apply Kd.R_drewN | apply Kd.R_drew)); exact HO_119001.out) hb); have n1_ := Aside0.mk (Kd.R_below (by (with_reducible repeat (first | apply Kd.R_alloc | apply Kd.R_drewN | apply Kd.R_drew)); exact HO_119002.out) hb); have n2_ := Aside0.mk (Kd.R_below (by (with_reducible repeat (first | apply Kd.R_alloc | apply Kd.R_drewN | apply Kd.R_drew)); exact HO_127001.out) hb); have n3_ := Aside0.mk (Kd.R_below (by (with_reducible repeat (first | apply Kd.R_alloc | apply Kd.R_drewN | apply Kd.R_drew)); exact HO_127002.out) hb); have n4_ := Aside0.mk (Kd.R_below (by (with_reducible repeat (first | apply Kd.R_alloc | apply Kd.R_drewN | apply Kd.R_drew)); exact HO_136001.out) hb); have n5_ := Aside0.mk (Kd.R_below (by (with_reducible repeat (first | apply Kd.R_alloc | apply Kd.R_drewN | apply Kd.R_drew)); exact HO_136002.out) hb); have n6_ := Aside0.mk (Kd.R_below (by (with_reducible repeat (first | apply Kd.R_alloc | apply Kd.R_drewN | apply Kd.R_drew)); exact HO140.out) hb); have n7_ := Aside0.mk (Kd.R_below (by (with_reducible repeat (first | apply Kd.R_alloc | apply Kd.R_drewN | apply Kd.R_drew)); exact HO143.out) hb); have n8_ := Aside0.mk (blk_below (g := gb101) (o := .cells #[.int .i8 a0_0, .slice A0_1 l0_1.length c0_1, .slice A0_2 l0_2.length c0_2] 26 (0, 0)) (by (with_reducible repeat (first | refine blk_drewN ?_ _ | refine blk_drew ?_ | refine blk_alloc ?_ _)); exact BK101.out) hb); have n9_ := Aside0.mk (blk_below (g := gb118) (o := .cells #[.int .i8 t110, .slice Ao23 t111.length co23, .slice Ao24 t114.length co24] 30 (0, 0)) (by (with_reducible repeat (first | refine blk_drewN ?_ _ | refine blk_drew ?_ | refine blk_alloc ?_ _)); exact BK118.out) hb); have n10_ := Aside0.mk (blk_below (g := gb126) (o := .cells #[.int .i8 t119, .slice Ao31 t120.length co31, .slice Ao32 t123.length co32] 30 (0, 0)) (by (with_reducible repeat (first | refine blk_drewN ?_ _ | refine blk_drew ?_ | refine blk_alloc ?_ _)); exact BK126.out) hb); have n11_ := Aside0.mk (blk_below (g := gb135) (o := .cells #[.int .i8 t127, .slice Ao39 t128.length co39, .slice Ao40 t131.length co40] 30 (0, 0)) (by (with_reducible repeat (first | refine blk_drewN ?_ _ | refine blk_drew ?_ | refine blk_alloc ?_ _)); exact BK135.out) hb); have n12_ := Aside0.mk (below_step (by repeat (first | (with_reducible first | exact HB.out | apply below_alloc | apply pw_below_drewN | apply below_drew1 | refine below_set ?_ GE101.out | refine below_set ?_ GE118.out | refine below_set ?_ GE126.out | refine below_set ?_ GE135.out) | exact HB.out)) hb); clear HO_119001; clear HO_119002; clear HO_127001; clear HO_127002; clear HO_136001; clear HO_136002; clear HO140; clear HO143; clear BK101; clear BK118; clear BK126; clear BK135; clear HB; have HO_119001 := n0_; have HO_119002 := n1_; have HO_127001 := n2_; have HO_127002 := n3_; have HO_136001 := n4_; have HO_136002 := n5_; have HO140 := n6_; have HO143 := n7_; have BK101 := n8_; have BK118 := n9_; have BK126 := n10_; have BK135 := n11_; have HB := n12_; clear n0_ n1_ n2_ n3_ n4_ n5_ n6_ n7_ n8_ n9_ n10_ n11_ n12_; (try clear hb); (try clear hb2); (try clear hk); (try clear hi)))
                  go_meet
                  case rel => exact ⟨_, ((t134 != t117)), (by first | rfl | (simp; done) | (simp [*]; done)), H', ⟨by have := HJ10.out; first | omega | exact Nat.le_refl _⟩, ⟨by (with_reducible repeat (first | apply Kd.R_alloc | apply Kd.R_drewN | apply Kd.R_drew)); exact Kd.R_mono HO_119001.out (fun _ hk => ⟨hk.1, hk.2.1⟩)⟩, ⟨by (with_reducible repeat (first | apply Kd.R_alloc | apply Kd.R_drewN | apply Kd.R_drew)); exact Kd.R_mono HO_119002.out (fun _ hk => ⟨hk.1, hk.2.1⟩)⟩, ⟨by (with_reducible repeat (first | apply Kd.R_alloc | apply Kd.R_drewN | apply Kd.R_drew)); exact Kd.R_mono HO_127001.out (fun _ hk => ⟨hk.1.1, hk.1.2⟩)⟩, ⟨by (with_reducible repeat (first | apply Kd.R_alloc | apply Kd.R_drewN | apply Kd.R_drew)); exact Kd.R_mono HO_127002.out (fun _ hk => ⟨hk.1.1, hk.1.2⟩)⟩, ⟨by (with_reducible repeat (first | apply Kd.R_alloc | apply Kd.R_drewN | apply Kd.R_drew)); exact Kd.R_mono HO_136001.out (fun _ hk => ⟨hk.1, hk.2.1⟩)⟩, ⟨by (with_reducible repeat (first | apply Kd.R_alloc | apply Kd.R_drewN | apply Kd.R_drew)); exact Kd.R_mono HO_136002.out (fun _ hk => ⟨hk.1, hk.2.1⟩)⟩, ⟨by (with_reducible repeat (first | refine blk_drewN ?_ _ | refine blk_drew ?_ | refine blk_alloc ?_ _)); exact BK101.out⟩, ⟨by (with_reducible repeat (first | refine blk_drewN ?_ _ | refine blk_drew ?_ | refine blk_alloc ?_ _)); exact BK118.out⟩, ⟨by (with_reducible repeat (first | refine blk_drewN ?_ _ | refine blk_drew ?_ | refine blk_alloc ?_ _)); exact BK126.out⟩, ⟨by (with_reducible repeat (first | refine blk_drewN ?_ _ | refine blk_drew ?_ | refine blk_alloc ?_ _)); exact BK135.out⟩, ⟨by repeat (first | (with_reducible first | exact HB.out | apply below_alloc | apply pw_below_drewN | apply below_drew1 | refine below_set ?_ GE101.out | refine below_set ?_ GE118.out | refine below_set ?_ GE126.out | refine below_set ?_ GE135.out) | exact HB.out)⟩⟩
                · replace c77 := Bool.eq_false_iff.mpr c77
                  subst c77
                  have H1 : (laws_FnExactMergeCircuit.j1 kj10 t117 true a0_0 l0_1 l0_2 t110 t111 t114 t127 t128 t131) = some r := by rw [if_neg (show ¬ (false = true) by decide)] at H; exact H
                  clear H
                  have H := H1
                  clear H1
                  have H' := Aside0.mk H
                  clear H
                  have hnb86 := NB135_101.out
                  have hnc86 := NB101_135.out
                  have hnb87 := NB135_118.out
                  have hnc87 := NB118_135.out
                  have hnb88 := NB135_126.out
                  have hnc88 := NB126_135.out
                  have hcz89_0 : w74.cell? ⟨gb135, 0, none⟩ = some (.int .i8 t127) := (blk_cell BK135.out 0).trans rfl
                  have hcz89_1 : w74.cell? ⟨gb135, 1, none⟩ = some (.slice Ao39 t128.length co39) := (blk_cell BK135.out 1).trans rfl
                  have hcz89_2 : w74.cell? ⟨gb135, 2, none⟩ = some (.slice Ao40 t131.length co40) := (blk_cell BK135.out 2).trans rfl
                  have hfz89_0 := blk_frozen BK135.out 0
                  have hfz89_1 := blk_frozen BK135.out 1
                  have hfz89_2 := blk_frozen BK135.out 2
                  have hnb90 := NB118_101.out
                  have hnc90 := NB101_118.out
                  have hnb91 := NB118_126.out
                  have hnc91 := NB126_118.out
                  have hcz92_0 : w74.cell? ⟨gb118, 0, none⟩ = some (.int .i8 t110) := (blk_cell BK118.out 0).trans rfl
                  have hcz92_1 : w74.cell? ⟨gb118, 1, none⟩ = some (.slice Ao23 t111.length co23) := (blk_cell BK118.out 1).trans rfl
                  have hcz92_2 : w74.cell? ⟨gb118, 2, none⟩ = some (.slice Ao24 t114.length co24) := (blk_cell BK118.out 2).trans rfl
                  have hfz92_0 := blk_frozen BK118.out 0
                  have hfz92_1 := blk_frozen BK118.out 1
                  have hfz92_2 := blk_frozen BK118.out 2
                  go_wp2_with (first | (go_at_call 13; (with_reducible refine (laws_eqCircuit.calls kj10 t127 _ _ t128 _ _ t131 t110 _ _ t111 _ _ t114 false _ ?side1 ?side2 ?side3 ?side4 ?side5 ?side6 ?side7 ?side8 A76.out).mono ?_); (case side1 => repeat (first | exact (Kd.R_reads' HO_136001.out).2.2 | (with_reducible refine Kd.C_alloc ?_ _) | (with_reducible refine Kd.C_drewN ?_ _) | (with_reducible refine Kd.C_drew ?_))); (case side2 => exact (Kd.R_reads' HO_136001.out).2.1); (case side3 => repeat (first | exact (Kd.R_reads' HO_136002.out).2.2 | (with_reducible refine Kd.C_alloc ?_ _) | (with_reducible refine Kd.C_drewN ?_ _) | (with_reducible refine Kd.C_drew ?_))); (case side4 => exact (Kd.R_reads' HO_136002.out).2.1); (case side5 => repeat (first | exact (Kd.R_reads' HO_119001.out).2.2 | (with_reducible refine Kd.C_alloc ?_ _) | (with_reducible refine Kd.C_drewN ?_ _) | (with_reducible refine Kd.C_drew ?_))); (case side6 => exact (Kd.R_reads' HO_119001.out).2.1); (case side7 => repeat (first | exact (Kd.R_reads' HO_119002.out).2.2 | (with_reducible refine Kd.C_alloc ?_ _) | (with_reducible refine Kd.C_drewN ?_ _) | (with_reducible refine Kd.C_drew ?_))); (case side8 => exact (Kd.R_reads' HO_119002.out).2.1); rintro e w93 ⟨rfl, hb⟩; have n0_ := Aside0.mk (Kd.R_below (by (with_reducible repeat (first | apply Kd.R_alloc | apply Kd.R_drewN | apply Kd.R_drew)); exact HO_119001.out) hb); have n1_ := Aside0.mk (Kd.R_below (by (with_reducible repeat (first | apply Kd.R_alloc | apply Kd.R_drewN | apply Kd.R_drew)); exact HO_119002.out) hb); have n2_ := Aside0.mk (Kd.R_below (by (with_reducible repeat (first | apply Kd.R_alloc | apply Kd.R_drewN | apply Kd.R_drew)); exact HO_127001.out) hb); have n3_ := Aside0.mk (Kd.R_below (by (with_reducible repeat (first | apply Kd.R_alloc | apply Kd.R_drewN | apply Kd.R_drew)); exact HO_127002.out) hb); have n4_ := Aside0.mk (Kd.R_below (by (with_reducible repeat (first | apply Kd.R_alloc | apply Kd.R_drewN | apply Kd.R_drew)); exact HO_136001.out) hb); have n5_ := Aside0.mk (Kd.R_below (by (with_reducible repeat (first | apply Kd.R_alloc | apply Kd.R_drewN | apply Kd.R_drew)); exact HO_136002.out) hb); have n6_ := Aside0.mk (Kd.R_below (by (with_reducible repeat (first | apply Kd.R_alloc | apply Kd.R_drewN | apply Kd.R_drew)); exact HO140.out) hb); have n7_ := Aside0.mk (Kd.R_below (by (with_reducible repeat (first | apply Kd.R_alloc | apply Kd.R_drewN | apply Kd.R_drew)); exact HO143.out) hb); have n8_ := Aside0.mk (blk_below (g := gb101) (o := .cells #[.int .i8 a0_0, .slice A0_1 l0_1.length c0_1, .slice A0_2 l0_2.length c0_2] 26 (0, 0)) (by (with_reducible repeat (first | refine blk_drewN ?_ _ | refine blk_drew ?_ | refine blk_alloc ?_ _)); exact BK101.out) hb); have n9_ := Aside0.mk (blk_below (g := gb118) (o := .cells #[.int .i8 t110, .slice Ao23 t111.length co23, .slice Ao24 t114.length co24] 30 (0, 0)) (by (with_reducible repeat (first | refine blk_drewN ?_ _ | refine blk_drew ?_ | refine blk_alloc ?_ _)); exact BK118.out) hb); have n10_ := Aside0.mk (blk_below (g := gb126) (o := .cells #[.int .i8 t119, .slice Ao31 t120.length co31, .slice Ao32 t123.length co32] 30 (0, 0)) (by (with_reducible repeat (first | refine blk_drewN ?_ _ | refine blk_drew ?_ | refine blk_alloc ?_ _)); exact BK126.out) hb); have n11_ := Aside0.mk (blk_below (g := gb135) (o := .cells #[.int .i8 t127, .slice Ao39 t128.length co39, .slice Ao40 t131.length co40] 30 (0, 0)) (by (with_reducible repeat (first | refine blk_drewN ?_ _ | refine blk_drew ?_ | refine blk_alloc ?_ _)); exact BK135.out) hb); have n12_ := Aside0.mk (below_step (by repeat (first | (with_reducible first | exact HB.out | apply below_alloc | apply pw_below_drewN | apply below_drew1 | refine below_set ?_ GE101.out | refine below_set ?_ GE118.out | refine below_set ?_ GE126.out | refine below_set ?_ GE135.out) | exact HB.out)) hb); clear HO_119001; clear HO_119002; clear HO_127001; clear HO_127002; clear HO_136001; clear HO_136002; clear HO140; clear HO143; clear BK101; clear BK118; clear BK126; clear BK135; clear HB; have HO_119001 := n0_; have HO_119002 := n1_; have HO_127001 := n2_; have HO_127002 := n3_; have HO_136001 := n4_; have HO_136002 := n5_; have HO140 := n6_; have HO143 := n7_; have BK101 := n8_; have BK118 := n9_; have BK126 := n10_; have BK135 := n11_; have HB := n12_; clear n0_ n1_ n2_ n3_ n4_ n5_ n6_ n7_ n8_ n9_ n10_ n11_ n12_; (try clear hb); (try clear hb2); (try clear hk); (try clear hi)))
                  go_meet
                  case rel => exact ⟨_, (true), (by first | rfl | (simp; done) | (simp [*]; done)), H', ⟨by have := HJ10.out; first | omega | exact Nat.le_refl _⟩, ⟨by (with_reducible repeat (first | apply Kd.R_alloc | apply Kd.R_drewN | apply Kd.R_drew)); exact Kd.R_mono HO_119001.out (fun _ hk => ⟨hk.1, hk.2.1⟩)⟩, ⟨by (with_reducible repeat (first | apply Kd.R_alloc | apply Kd.R_drewN | apply Kd.R_drew)); exact Kd.R_mono HO_119002.out (fun _ hk => ⟨hk.1, hk.2.1⟩)⟩, ⟨by (with_reducible repeat (first | apply Kd.R_alloc | apply Kd.R_drewN | apply Kd.R_drew)); exact Kd.R_mono HO_127001.out (fun _ hk => ⟨hk.1.1, hk.1.2⟩)⟩, ⟨by (with_reducible repeat (first | apply Kd.R_alloc | apply Kd.R_drewN | apply Kd.R_drew)); exact Kd.R_mono HO_127002.out (fun _ hk => ⟨hk.1.1, hk.1.2⟩)⟩, ⟨by (with_reducible repeat (first | apply Kd.R_alloc | apply Kd.R_drewN | apply Kd.R_drew)); exact Kd.R_mono HO_136001.out (fun _ hk => ⟨hk.1, hk.2.1⟩)⟩, ⟨by (with_reducible repeat (first | apply Kd.R_alloc | apply Kd.R_drewN | apply Kd.R_drew)); exact Kd.R_mono HO_136002.out (fun _ hk => ⟨hk.1, hk.2.1⟩)⟩, ⟨by (with_reducible repeat (first | refine blk_drewN ?_ _ | refine blk_drew ?_ | refine blk_alloc ?_ _)); exact BK101.out⟩, ⟨by (with_reducible repeat (first | refine blk_drewN ?_ _ | refine blk_drew ?_ | refine blk_alloc ?_ _)); exact BK118.out⟩, ⟨by (with_reducible repeat (first | refine blk_drewN ?_ _ | refine blk_drew ?_ | refine blk_alloc ?_ _)); exact BK126.out⟩, ⟨by (with_reducible repeat (first | refine blk_drewN ?_ _ | refine blk_drew ?_ | refine blk_alloc ?_ _)); exact BK135.out⟩, ⟨by repeat (first | (with_reducible first | exact HB.out | apply below_alloc | apply pw_below_drewN | apply below_drew1 | refine below_set ?_ GE101.out | refine below_set ?_ GE118.out | refine below_set ?_ GE126.out | refine below_set ?_ GE135.out) | exact HB.out)⟩⟩
            case rest =>
              clear HC64
              try clear c1
              try clear c2
              try clear p2
              try clear c3
              try clear c3b0
              try clear c4
              try clear c5
              try clear c6
              try clear c7
              try clear c8
              try clear c9
              try clear c11
              try clear c13
              try clear c14
              try clear c16
              try clear c17
              try clear c21
              try clear c28
              try clear c29
              try clear c35
              try clear c36
              try clear c37
              try clear c42
              try clear c43
              try clear c44
              try clear c45
              try clear c47
              try clear c48
              try clear c51
              try clear c52
              try clear c53
              try clear c55
              try clear c56
              try clear c59
              try clear c62
              try clear c70
              try clear c71
              try clear c72
              try clear c75
              try clear c75b0
              try clear c77
              try clear c78
              try clear c79
              try clear c80
              try clear c82
              try clear c83
              try clear c86
              try clear c87
              try clear c88
              try clear c90
              try clear c91
              try clear hcz13_0
              try clear hcz13_1
              try clear hcz13_2
              try clear hcz15_0
              try clear hcz15_1
              try clear hcz15_2
              try clear hcz22_0
              try clear hcz22_1
              try clear hcz22_2
              try clear hcz25_0
              try clear hcz25_1
              try clear hcz25_2
              try clear hcz30_0
              try clear hcz30_1
              try clear hcz30_2
              try clear hcz38_0
              try clear hcz38_1
              try clear hcz38_2
              try clear hcz46_0
              try clear hcz46_1
              try clear hcz46_2
              try clear hcz49_0
              try clear hcz49_1
              try clear hcz49_2
              try clear hcz54_0
              try clear hcz54_1
              try clear hcz54_2
              try clear hcz57_0
              try clear hcz57_1
              try clear hcz57_2
              try clear hcz5_0
              try clear hcz5_1
              try clear hcz5_2
              try clear hcz73_0
              try clear hcz73_1
              try clear hcz73_2
              try clear hcz81_0
              try clear hcz81_1
              try clear hcz81_2
              try clear hcz84_0
              try clear hcz84_1
              try clear hcz84_2
              try clear hcz89_0
              try clear hcz89_1
              try clear hcz89_2
              try clear hcz92_0
              try clear hcz92_1
              try clear hcz92_2
              try clear hfz13_0
              try clear hfz13_1
              try clear hfz13_2
              try clear hfz15_0
              try clear hfz15_1
              try clear hfz15_2
              try clear hfz22_0
              try clear hfz22_1
              try clear hfz22_2
              try clear hfz25_0
              try clear hfz25_1
              try clear hfz25_2
              try clear hfz30_0
              try clear hfz30_1
              try clear hfz30_2
              try clear hfz38_0
              try clear hfz38_1
              try clear hfz38_2
              try clear hfz46_0
              try clear hfz46_1
              try clear hfz46_2
              try clear hfz49_0
              try clear hfz49_1
              try clear hfz49_2
              try clear hfz54_0
              try clear hfz54_1
              try clear hfz54_2
              try clear hfz57_0
              try clear hfz57_1
              try clear hfz57_2
              try clear hfz5_0
              try clear hfz5_1
              try clear hfz5_2
              try clear hfz73_0
              try clear hfz73_1
              try clear hfz73_2
              try clear hfz81_0
              try clear hfz81_1
              try clear hfz81_2
              try clear hfz84_0
              try clear hfz84_1
              try clear hfz84_2
              try clear hfz89_0
              try clear hfz89_1
              try clear hfz89_2
              try clear hfz92_0
              try clear hfz92_1
              try clear hfz92_2
              try clear p2
              obtain ⟨kq, x61_63, rfl, HA, HJ63, HO_119001, HO_119002, HO_127001, HO_127002, HO_136001, HO_136002, BK101, BK118, BK126, BK135, HB⟩ := hcut
              have hl127001_63 := (Kd.R_reads' HO_127001.out).1
              rw [hl127001_63] at HO_127001
              (try simp only [hl127001_63])
              (try simp only [hl127001_63] at BK101)
              (try simp only [hl127001_63] at BK118)
              (try simp only [hl127001_63] at BK126)
              (try simp only [hl127001_63] at BK135)
              (try simp only [hl127001_63] at HO_119001)
              (try simp only [hl127001_63] at HO_119002)
              (try simp only [hl127001_63] at HO_127002)
              (try simp only [hl127001_63] at HO_136001)
              (try simp only [hl127001_63] at HO_136002)
              have hl127002_63 := (Kd.R_reads' HO_127002.out).1
              rw [hl127002_63] at HO_127002
              (try simp only [hl127002_63])
              (try simp only [hl127002_63] at BK101)
              (try simp only [hl127002_63] at BK118)
              (try simp only [hl127002_63] at BK126)
              (try simp only [hl127002_63] at BK135)
              (try simp only [hl127002_63] at HO_119001)
              (try simp only [hl127002_63] at HO_119002)
              (try simp only [hl127002_63] at HO_127001)
              (try simp only [hl127002_63] at HO_136001)
              (try simp only [hl127002_63] at HO_136002)
              cases kq with
              | zero => exact absurd HA.out (by simp [laws_FnExactMergeCircuit.j1])
              | succ kj63 =>
                have H := HA.out
                clear HA
                simp only [laws_FnExactMergeCircuit.j1] at H
                by_cases c94 : x61_63 = true
                · subst c94
                  have H1 : (none) = some r := by rw [if_pos rfl] at H; exact H
                  clear H
                  have H := H1
                  clear H1
                  exact absurd H (by simp)
                · replace c94 := Bool.eq_false_iff.mpr c94
                  subst c94
                  have H1 : ((laws_markCircuit.f kj63 t127 t128 t131 1).bind fun bt149 => ((laws_heldCircuit.f kj63 t127 bt149.2.1 bt149.2.2 1).bind fun t152 => (if t152 < 0 then (none) else (if t152 = bt149.1 then ((laws_toCircuit.f kj63 a0_0 l0_1 l0_2).bind fun bt153 => ((impl_MergeCircuit.f kj63 bt153.1 bt153.2.1 bt153.2.2).bind fun bt160 => ((laws_eqCircuit.f kj63 bt160.1 bt160.2.1 bt160.2.2.1 t110 t111 t114).bind fun t169 => (if t169 = true then (laws_FnExactMergeCircuit.j2 kj63 bt149.1 (bt160.2.2.2 != t117) t127 bt149.2.1 bt149.2.2) else (laws_FnExactMergeCircuit.j2 kj63 bt149.1 true t127 bt149.2.1 bt149.2.2))))) else (none))))) = some r := by rw [if_neg (show ¬ (false = true) by decide)] at H; exact H
                  clear H
                  have H := H1
                  clear H1
                  replace H := Option.bind_eq_some_iff.mp H
                  obtain ⟨⟨t149, t150, t151⟩, A950, H⟩ := H
                  replace H : ((laws_heldCircuit.f kj63 t127 t150 t151 1).bind fun t152 => (if t152 < 0 then (none) else (if t152 = t149 then ((laws_toCircuit.f kj63 a0_0 l0_1 l0_2).bind fun bt153 => ((impl_MergeCircuit.f kj63 bt153.1 bt153.2.1 bt153.2.2).bind fun bt160 => ((laws_eqCircuit.f kj63 bt160.1 bt160.2.1 bt160.2.2.1 t110 t111 t114).bind fun t169 => (if t169 = true then (laws_FnExactMergeCircuit.j2 kj63 t149 (bt160.2.2.2 != t117) t127 t150 t151) else (laws_FnExactMergeCircuit.j2 kj63 t149 true t127 t150 t151))))) else (none)))) = some r := H
                  have A95 := Aside0.mk A950
                  clear A950
                  replace H := Option.bind_eq_some_iff.mp H
                  obtain ⟨t152, A960, H⟩ := H
                  replace H : (if t152 < 0 then (none) else (if t152 = t149 then ((laws_toCircuit.f kj63 a0_0 l0_1 l0_2).bind fun bt153 => ((impl_MergeCircuit.f kj63 bt153.1 bt153.2.1 bt153.2.2).bind fun bt160 => ((laws_eqCircuit.f kj63 bt160.1 bt160.2.1 bt160.2.2.1 t110 t111 t114).bind fun t169 => (if t169 = true then (laws_FnExactMergeCircuit.j2 kj63 t149 (bt160.2.2.2 != t117) t127 t150 t151) else (laws_FnExactMergeCircuit.j2 kj63 t149 true t127 t150 t151))))) else (none))) = some r := H
                  have A96 := Aside0.mk A960
                  clear A960
                  by_cases c97 : t152 < 0
                  · rw [if_pos c97] at H
                    exact absurd H (by simp)
                  · rw [if_neg c97] at H
                    have c97b0 : decide (t152 < 0) = false := decide_eq_false c97
                    clear c97
                    by_cases c98 : t152 = t149
                    · rw [if_pos c98] at H
                      have c98b0 : (t152 == t149) = true := beq_iff_eq.mpr c98
                      have c98b1 : (t152 != t149) = false := bne_eq_false_iff_eq.mpr c98
                      clear c98
                      replace H := Option.bind_eq_some_iff.mp H
                      obtain ⟨⟨t153, t154, t157⟩, A990, H⟩ := H
                      replace H : ((impl_MergeCircuit.f kj63 t153 t154 t157).bind fun bt160 => ((laws_eqCircuit.f kj63 bt160.1 bt160.2.1 bt160.2.2.1 t110 t111 t114).bind fun t169 => (if t169 = true then (laws_FnExactMergeCircuit.j2 kj63 t149 (bt160.2.2.2 != t117) t127 t150 t151) else (laws_FnExactMergeCircuit.j2 kj63 t149 true t127 t150 t151)))) = some r := H
                      have A99 := Aside0.mk A990
                      clear A990
                      replace H := Option.bind_eq_some_iff.mp H
                      obtain ⟨⟨t160, t161, t164, t167⟩, A1000, H⟩ := H
                      replace H : ((laws_eqCircuit.f kj63 t160 t161 t164 t110 t111 t114).bind fun t169 => (if t169 = true then (laws_FnExactMergeCircuit.j2 kj63 t149 (t167 != t117) t127 t150 t151) else (laws_FnExactMergeCircuit.j2 kj63 t149 true t127 t150 t151))) = some r := H
                      have A100 := Aside0.mk A1000
                      clear A1000
                      have HC101 := Aside0.mk H
                      clear H
                      have hnb102 := NB135_101.out
                      have hnc102 := NB101_135.out
                      have hnb103 := NB135_118.out
                      have hnc103 := NB118_135.out
                      have hnb104 := NB135_126.out
                      have hnc104 := NB126_135.out
                      have hcz105_0 : wc.cell? ⟨gb135, 0, none⟩ = some (.int .i8 t127) := (blk_cell BK135.out 0).trans rfl
                      have hcz105_1 : wc.cell? ⟨gb135, 1, none⟩ = some (.slice Ao39 t128.length co39) := (blk_cell BK135.out 1).trans rfl
                      have hcz105_2 : wc.cell? ⟨gb135, 2, none⟩ = some (.slice Ao40 t131.length co40) := (blk_cell BK135.out 2).trans rfl
                      have hfz105_0 := blk_frozen BK135.out 0
                      have hfz105_1 := blk_frozen BK135.out 1
                      have hfz105_2 := blk_frozen BK135.out 2
                      go_upto_region 25 with (first | ((with_reducible refine gate_callee (f := 14) rfl ?_); refine goesL_ (some 64) rfl rfl Try.func14 (by kernel_rfl) rfl #[.agg #[.int .i8 t127, .slice Ao39 t128.length co39, .slice Ao40 t131.length co40], .int .i64 1] rfl (by (try simp only [List.map_toArray, List.map_cons, List.map_nil]); first | done | rfl | (simp only [List.length_drop, List.length_take]; rfl)) ?_; (with_reducible refine (laws_markCircuit.calls kj63 t127 (fun k_ => some k_ = (.slice Ao39 t128.length co39 : Value).ownBlock) (.slice Ao39 t128.length co39) t128 (fun k_ => some k_ = (.slice Ao40 t131.length co40 : Value).ownBlock) (.slice Ao40 t131.length co40) t131 1 t149 t150 t151 w _ ?side1 ?side2 ?side3 A95.out).mono ?_); (case side1 => repeat (first | (with_reducible first | exact HB.out | apply below_alloc | apply pw_below_drewN | apply below_drew1 | refine below_set ?_ GE101.out | refine below_set ?_ GE118.out | refine below_set ?_ GE126.out | refine below_set ?_ GE135.out) | exact HB.out)); (case side2 => exact Kd.R_tight rfl HO_136001.out); (case side3 => exact Kd.R_tight rfl HO_136002.out); rintro e w106 ⟨rfl, hy0, hy1, hb, hkp⟩; refine ⟨_, rfl, ?_⟩; have n0_ := Aside0.mk (Kd.R_mono (ok' := fun k_ => some k_ ≠ (.slice Ao31 t146.length co31 : Value).ownBlock ∧ some k_ ≠ (.slice Ao39 t128.length co39 : Value).ownBlock) (Kd.R_keptB ((Kd.R_apart' HO_119001.out (Kd.R_typed HO_136002.out) (by decide))) hkp (fun k_ hk_ hs_ => Or.elim hs_ (fun e_ => (hk_.1.2) e_) (fun e_ => (hk_.2) e_))) (fun k_ hk_ => ⟨hk_.1.1.1, hk_.1.1.2⟩)); have n1_ := Aside0.mk (Kd.R_mono (ok' := fun k_ => some k_ ≠ (.slice Ao32 t147.length co32 : Value).ownBlock ∧ some k_ ≠ (.slice Ao40 t131.length co40 : Value).ownBlock) (Kd.R_keptB ((Kd.R_apart' HO_119002.out (Kd.R_typed HO_136001.out) (by decide))) hkp (fun k_ hk_ hs_ => Or.elim hs_ (fun e_ => (hk_.2) e_) (fun e_ => (hk_.1.2) e_))) (fun k_ hk_ => ⟨hk_.1.1.1, hk_.1.1.2⟩)); have n2_ := Aside0.mk (Kd.R_mono (ok' := fun k_ => some k_ ≠ (.slice Ao23 t111.length co23 : Value).ownBlock ∧ some k_ ≠ (.slice Ao39 t128.length co39 : Value).ownBlock) (Kd.R_keptB ((Kd.R_apart' HO_127001.out (Kd.R_typed HO_136002.out) (by decide))) hkp (fun k_ hk_ hs_ => Or.elim hs_ (fun e_ => (hk_.1.2) e_) (fun e_ => (hk_.2) e_))) (fun k_ hk_ => ⟨hk_.1.1.1, hk_.1.1.2⟩)); have n3_ := Aside0.mk (Kd.R_mono (ok' := fun k_ => some k_ ≠ (.slice Ao24 t114.length co24 : Value).ownBlock ∧ some k_ ≠ (.slice Ao40 t131.length co40 : Value).ownBlock) (Kd.R_keptB ((Kd.R_apart' HO_127002.out (Kd.R_typed HO_136001.out) (by decide))) hkp (fun k_ hk_ hs_ => Or.elim hs_ (fun e_ => (hk_.2) e_) (fun e_ => (hk_.1.2) e_))) (fun k_ hk_ => ⟨hk_.1.1.1, hk_.1.1.2⟩)); have n4_ := Aside0.mk (Kd.R_reok rfl hy0 (fun k_ e_ => HO_136001.out.1 k_ e_)); have n5_ := Aside0.mk (Kd.R_reok rfl hy1 (fun k_ e_ => HO_136002.out.1 k_ e_)); have n6_ := Aside0.mk (blk_kept (by (with_reducible repeat (first | refine blk_drewN ?_ _ | refine blk_drew ?_ | refine blk_alloc ?_ _)); exact BK101.out) hkp (fun hs_ => Or.elim hs_ (fun e_ => (fun e_ => (Kd.R_ne HO_136001.out BK101.out (by decide)) e_) e_) (fun e_ => (fun e_ => (Kd.R_ne HO_136002.out BK101.out (by decide)) e_) e_))); have n7_ := Aside0.mk (blk_kept (by (with_reducible repeat (first | refine blk_drewN ?_ _ | refine blk_drew ?_ | refine blk_alloc ?_ _)); exact BK118.out) hkp (fun hs_ => Or.elim hs_ (fun e_ => (fun e_ => (Kd.R_ne HO_136001.out BK118.out (by decide)) e_) e_) (fun e_ => (fun e_ => (Kd.R_ne HO_136002.out BK118.out (by decide)) e_) e_))); have n8_ := Aside0.mk (blk_kept (by (with_reducible repeat (first | refine blk_drewN ?_ _ | refine blk_drew ?_ | refine blk_alloc ?_ _)); exact BK126.out) hkp (fun hs_ => Or.elim hs_ (fun e_ => (fun e_ => (Kd.R_ne HO_136001.out BK126.out (by decide)) e_) e_) (fun e_ => (fun e_ => (Kd.R_ne HO_136002.out BK126.out (by decide)) e_) e_))); have n9_ := Aside0.mk (blk_kept (by (with_reducible repeat (first | refine blk_drewN ?_ _ | refine blk_drew ?_ | refine blk_alloc ?_ _)); exact BK135.out) hkp (fun hs_ => Or.elim hs_ (fun e_ => (fun e_ => (Kd.R_ne HO_136001.out BK135.out (by decide)) e_) e_) (fun e_ => (fun e_ => (Kd.R_ne HO_136002.out BK135.out (by decide)) e_) e_))); have n10_ := Aside0.mk (hb); clear HO_119001; clear HO_119002; clear HO_127001; clear HO_127002; clear HO_136001; clear HO_136002; clear BK101; clear BK118; clear BK126; clear BK135; clear HB; have HO_119001 := n0_; have HO_119002 := n1_; have HO_127001 := n2_; have HO_127002 := n3_; have HO_136001 := n4_; have HO_136002 := n5_; have BK101 := n6_; have BK118 := n7_; have BK126 := n8_; have BK135 := n9_; have HB := n10_; clear n0_ n1_ n2_ n3_ n4_ n5_ n6_ n7_ n8_ n9_ n10_; (try clear hb); (try clear hkp); (try clear hy0); (try clear hy1); have hcz107_0 : w106.cell? ⟨gb135, 0, none⟩ = some (.int .i8 t127) := (blk_cell BK135.out 0).trans rfl; have hcz107_1 : w106.cell? ⟨gb135, 1, none⟩ = some (.slice Ao39 t128.length co39) := (blk_cell BK135.out 1).trans rfl; have hcz107_2 : w106.cell? ⟨gb135, 2, none⟩ = some (.slice Ao40 t131.length co40) := (blk_cell BK135.out 2).trans rfl; have hfz107_0 := blk_frozen BK135.out 0; have hfz107_1 := blk_frozen BK135.out 1; have hfz107_2 := blk_frozen BK135.out 2) | ((with_reducible refine gate_callee (f := 15) rfl ?_); refine goesL_ (some 67) rfl rfl Try.func15 (by kernel_rfl) rfl #[.agg #[.int .i8 t127, .slice Ao39 t150.length co39, .slice Ao40 t151.length co40], .int .i64 1] rfl (by (try simp only [List.map_toArray, List.map_cons, List.map_nil]); first | done | (rw [show t150.length = t128.length from (Kd.R_reads' HO_136001.out).1.symm, show t151.length = t131.length from (Kd.R_reads' HO_136002.out).1.symm] <;> rfl) | rfl | (simp only [List.length_drop, List.length_take]; rfl)) ?_; (with_reducible refine (laws_heldCircuit.calls kj63 t127 _ _ t150 _ _ t151 1 t152 _ ?side1 ?side2 ?side3 ?side4 A96.out).mono ?_); (case side1 => repeat (first | exact (Kd.R_reads' HO_136001.out).2.2 | (with_reducible refine Kd.C_alloc ?_ _) | (with_reducible refine Kd.C_drewN ?_ _) | (with_reducible refine Kd.C_drew ?_))); (case side2 => rw [show t150.length = t128.length from (Kd.R_reads' HO_136001.out).1.symm]; exact (Kd.R_reads' HO_136001.out).2.1); (case side3 => repeat (first | exact (Kd.R_reads' HO_136002.out).2.2 | (with_reducible refine Kd.C_alloc ?_ _) | (with_reducible refine Kd.C_drewN ?_ _) | (with_reducible refine Kd.C_drew ?_))); (case side4 => rw [show t151.length = t131.length from (Kd.R_reads' HO_136002.out).1.symm]; exact (Kd.R_reads' HO_136002.out).2.1); rintro e w108 ⟨rfl, hb⟩; refine ⟨_, rfl, ?_⟩; have n0_ := Aside0.mk (Kd.R_below (by (with_reducible repeat (first | apply Kd.R_alloc | apply Kd.R_drewN | apply Kd.R_drew)); exact HO_119001.out) hb); have n1_ := Aside0.mk (Kd.R_below (by (with_reducible repeat (first | apply Kd.R_alloc | apply Kd.R_drewN | apply Kd.R_drew)); exact HO_119002.out) hb); have n2_ := Aside0.mk (Kd.R_below (by (with_reducible repeat (first | apply Kd.R_alloc | apply Kd.R_drewN | apply Kd.R_drew)); exact HO_127001.out) hb); have n3_ := Aside0.mk (Kd.R_below (by (with_reducible repeat (first | apply Kd.R_alloc | apply Kd.R_drewN | apply Kd.R_drew)); exact HO_127002.out) hb); have n4_ := Aside0.mk (Kd.R_below (by (with_reducible repeat (first | apply Kd.R_alloc | apply Kd.R_drewN | apply Kd.R_drew)); exact HO_136001.out) hb); have n5_ := Aside0.mk (Kd.R_below (by (with_reducible repeat (first | apply Kd.R_alloc | apply Kd.R_drewN | apply Kd.R_drew)); exact HO_136002.out) hb); have n6_ := Aside0.mk (blk_below (g := gb101) (o := .cells #[.int .i8 a0_0, .slice A0_1 l0_1.length c0_1, .slice A0_2 l0_2.length c0_2] 26 (0, 0)) (by (with_reducible repeat (first | refine blk_drewN ?_ _ | refine blk_drew ?_ | refine blk_alloc ?_ _)); exact BK101.out) hb); have n7_ := Aside0.mk (blk_below (g := gb118) (o := .cells #[.int .i8 t110, .slice Ao23 t111.length co23, .slice Ao24 t114.length co24] 30 (0, 0)) (by (with_reducible repeat (first | refine blk_drewN ?_ _ | refine blk_drew ?_ | refine blk_alloc ?_ _)); exact BK118.out) hb); have n8_ := Aside0.mk (blk_below (g := gb126) (o := .cells #[.int .i8 t119, .slice Ao31 t146.length co31, .slice Ao32 t147.length co32] 30 (0, 0)) (by (with_reducible repeat (first | refine blk_drewN ?_ _ | refine blk_drew ?_ | refine blk_alloc ?_ _)); exact BK126.out) hb); have n9_ := Aside0.mk (blk_below (g := gb135) (o := .cells #[.int .i8 t127, .slice Ao39 t128.length co39, .slice Ao40 t131.length co40] 30 (0, 0)) (by (with_reducible repeat (first | refine blk_drewN ?_ _ | refine blk_drew ?_ | refine blk_alloc ?_ _)); exact BK135.out) hb); have n10_ := Aside0.mk (below_step (by repeat (first | (with_reducible first | exact HB.out | apply below_alloc | apply pw_below_drewN | apply below_drew1 | refine below_set ?_ GE101.out | refine below_set ?_ GE118.out | refine below_set ?_ GE126.out | refine below_set ?_ GE135.out) | exact HB.out)) hb); clear HO_119001; clear HO_119002; clear HO_127001; clear HO_127002; clear HO_136001; clear HO_136002; clear BK101; clear BK118; clear BK126; clear BK135; clear HB; have HO_119001 := n0_; have HO_119002 := n1_; have HO_127001 := n2_; have HO_127002 := n3_; have HO_136001 := n4_; have HO_136002 := n5_; have BK101 := n6_; have BK118 := n7_; have BK126 := n8_; have BK135 := n9_; have HB := n10_; clear n0_ n1_ n2_ n3_ n4_ n5_ n6_ n7_ n8_ n9_ n10_; (try clear hb); (try clear hb2); (try clear hk); (try clear hi); have hnb109 := NB101_118.out; have hnc109 := NB118_101.out; have hnb110 := NB101_126.out; have hnc110 := NB126_101.out; have hcz111_0 : w108.cell? ⟨gb101, 0, none⟩ = some (.int .i8 a0_0) := (blk_cell BK101.out 0).trans rfl; have hcz111_1 : w108.cell? ⟨gb101, 1, none⟩ = some (.slice A0_1 l0_1.length c0_1) := (blk_cell BK101.out 1).trans rfl; have hcz111_2 : w108.cell? ⟨gb101, 2, none⟩ = some (.slice A0_2 l0_2.length c0_2) := (blk_cell BK101.out 2).trans rfl; have hfz111_0 := blk_frozen BK101.out 0; have hfz111_1 := blk_frozen BK101.out 1; have hfz111_2 := blk_frozen BK101.out 2) | ((with_reducible refine gate_callee (f := 11) rfl ?_); refine goesL_ (some 75) rfl rfl Try.func11 (by kernel_rfl) rfl #[.agg #[.int .i8 a0_0, .slice A0_1 l0_1.length c0_1, .slice A0_2 l0_2.length c0_2]] rfl (by (try simp only [List.map_toArray, List.map_cons, List.map_nil]); first | done | rfl | (simp only [List.length_drop, List.length_take]; rfl)) ?_; (with_reducible refine (laws_toCircuit.calls kj63 a0_0 _ _ l0_1 _ _ l0_2 t153 t154 t157 _ ?side1 ?side2 ?side3 ?side4 A99.out).mono ?_); (case side1 => repeat (first | exact (Kd.C_below HR0_1.out HB.out) | (with_reducible refine Kd.C_alloc ?_ _) | (with_reducible refine Kd.C_drewN ?_ _) | (with_reducible refine Kd.C_drew ?_))); (case side2 => exact HC0_1.out); (case side3 => repeat (first | exact (Kd.C_below HR0_2.out HB.out) | (with_reducible refine Kd.C_alloc ?_ _) | (with_reducible refine Kd.C_drewN ?_ _) | (with_reducible refine Kd.C_drew ?_))); (case side4 => exact HC0_2.out); rintro e w112 ⟨v155, v158, rfl, ho0, ho1, hb⟩; refine ⟨_, rfl, ?_⟩; have n0_ := Aside0.mk (Kd.R_elder' (by (with_reducible repeat (first | apply Kd.R_alloc | apply Kd.R_drewN | apply Kd.R_drew)); exact HO_119001.out) (Kd.R_base ho0) hb); have n1_ := Aside0.mk (Kd.R_elder' (by (with_reducible repeat (first | apply Kd.R_alloc | apply Kd.R_drewN | apply Kd.R_drew)); exact HO_119002.out) (Kd.R_base ho1) hb); have n2_ := Aside0.mk (Kd.R_elder' (by (with_reducible repeat (first | apply Kd.R_alloc | apply Kd.R_drewN | apply Kd.R_drew)); exact HO_127001.out) (Kd.R_base ho0) hb); have n3_ := Aside0.mk (Kd.R_elder' (by (with_reducible repeat (first | apply Kd.R_alloc | apply Kd.R_drewN | apply Kd.R_drew)); exact HO_127002.out) (Kd.R_base ho1) hb); have n4_ := Aside0.mk (Kd.R_elder' (by (with_reducible repeat (first | apply Kd.R_alloc | apply Kd.R_drewN | apply Kd.R_drew)); exact HO_136001.out) (Kd.R_base ho0) hb); have n5_ := Aside0.mk (Kd.R_elder' (by (with_reducible repeat (first | apply Kd.R_alloc | apply Kd.R_drewN | apply Kd.R_drew)); exact HO_136002.out) (Kd.R_base ho1) hb); have n6_ := Aside0.mk (Kd.R_lower (Kd.R_new' (Kd.R_new' (Kd.R_new' ho0 (Kd.R_lt (by (with_reducible repeat (first | apply Kd.R_alloc | apply Kd.R_drewN | apply Kd.R_drew)); exact HO_119001.out))) (Kd.R_lt (by (with_reducible repeat (first | apply Kd.R_alloc | apply Kd.R_drewN | apply Kd.R_drew)); exact HO_127001.out))) (Kd.R_lt (by (with_reducible repeat (first | apply Kd.R_alloc | apply Kd.R_drewN | apply Kd.R_drew)); exact HO_136001.out))) (below_size (by repeat (first | (with_reducible first | exact HB.out | apply below_alloc | apply pw_below_drewN | apply below_drew1 | refine below_set ?_ GE101.out | refine below_set ?_ GE118.out | refine below_set ?_ GE126.out | refine below_set ?_ GE135.out) | exact HB.out)))); have n7_ := Aside0.mk (Kd.R_lower (Kd.R_new' (Kd.R_new' (Kd.R_new' ho1 (Kd.R_lt (by (with_reducible repeat (first | apply Kd.R_alloc | apply Kd.R_drewN | apply Kd.R_drew)); exact HO_119002.out))) (Kd.R_lt (by (with_reducible repeat (first | apply Kd.R_alloc | apply Kd.R_drewN | apply Kd.R_drew)); exact HO_127002.out))) (Kd.R_lt (by (with_reducible repeat (first | apply Kd.R_alloc | apply Kd.R_drewN | apply Kd.R_drew)); exact HO_136002.out))) (below_size (by repeat (first | (with_reducible first | exact HB.out | apply below_alloc | apply pw_below_drewN | apply below_drew1 | refine below_set ?_ GE101.out | refine below_set ?_ GE118.out | refine below_set ?_ GE126.out | refine below_set ?_ GE135.out) | exact HB.out)))); have n8_ := Aside0.mk (blk_below (g := gb101) (o := .cells #[.int .i8 a0_0, .slice A0_1 l0_1.length c0_1, .slice A0_2 l0_2.length c0_2] 26 (0, 0)) (by (with_reducible repeat (first | refine blk_drewN ?_ _ | refine blk_drew ?_ | refine blk_alloc ?_ _)); exact BK101.out) hb); have n9_ := Aside0.mk (blk_below (g := gb118) (o := .cells #[.int .i8 t110, .slice Ao23 t111.length co23, .slice Ao24 t114.length co24] 30 (0, 0)) (by (with_reducible repeat (first | refine blk_drewN ?_ _ | refine blk_drew ?_ | refine blk_alloc ?_ _)); exact BK118.out) hb); have n10_ := Aside0.mk (blk_below (g := gb126) (o := .cells #[.int .i8 t119, .slice Ao31 t146.length co31, .slice Ao32 t147.length co32] 30 (0, 0)) (by (with_reducible repeat (first | refine blk_drewN ?_ _ | refine blk_drew ?_ | refine blk_alloc ?_ _)); exact BK126.out) hb); have n11_ := Aside0.mk (blk_below (g := gb135) (o := .cells #[.int .i8 t127, .slice Ao39 t128.length co39, .slice Ao40 t131.length co40] 30 (0, 0)) (by (with_reducible repeat (first | refine blk_drewN ?_ _ | refine blk_drew ?_ | refine blk_alloc ?_ _)); exact BK135.out) hb); have n12_ := Aside0.mk (below_step (by repeat (first | (with_reducible first | exact HB.out | apply below_alloc | apply pw_below_drewN | apply below_drew1 | refine below_set ?_ GE101.out | refine below_set ?_ GE118.out | refine below_set ?_ GE126.out | refine below_set ?_ GE135.out) | exact HB.out)) hb); clear HO_119001; clear HO_119002; clear HO_127001; clear HO_127002; clear HO_136001; clear HO_136002; clear BK101; clear BK118; clear BK126; clear BK135; clear HB; have HO_119001 := n0_; have HO_119002 := n1_; have HO_127001 := n2_; have HO_127002 := n3_; have HO_136001 := n4_; have HO_136002 := n5_; have HO156 := n6_; have HO159 := n7_; have BK101 := n8_; have BK118 := n9_; have BK126 := n10_; have BK135 := n11_; have HB := n12_; clear n0_ n1_ n2_ n3_ n4_ n5_ n6_ n7_ n8_ n9_ n10_ n11_ n12_; (try clear hb); (try clear hb2); (try clear hk); (try clear hi); (try clear ho0); (try clear ho1); obtain ⟨Ao113, co113, eo113⟩ := Kd.R_slice HO156.out; subst eo113; obtain ⟨Ao114, co114, eo114⟩ := Kd.R_slice HO159.out; subst eo114) | ((with_reducible refine gate_callee (f := 17) rfl ?_); refine goesL_ (some 76) rfl rfl Try.func17 (by kernel_rfl) rfl #[.agg #[.int .i8 t153, .slice Ao113 t154.length co113, .slice Ao114 t157.length co114]] rfl (by (try simp only [List.map_toArray, List.map_cons, List.map_nil]); first | done | rfl | (simp only [List.length_drop, List.length_take]; rfl)) ?_; (with_reducible refine (impl_MergeCircuit.calls kj63 t153 _ _ t154 _ _ t157 t160 t161 t164 t167 _ ?side1 ?side2 ?side3 ?side4 A100.out).mono ?_); (case side1 => repeat (first | exact (Kd.R_reads' HO156.out).2.2 | (with_reducible refine Kd.C_alloc ?_ _) | (with_reducible refine Kd.C_drewN ?_ _) | (with_reducible refine Kd.C_drew ?_))); (case side2 => exact (Kd.R_reads' HO156.out).2.1); (case side3 => repeat (first | exact (Kd.R_reads' HO159.out).2.2 | (with_reducible refine Kd.C_alloc ?_ _) | (with_reducible refine Kd.C_drewN ?_ _) | (with_reducible refine Kd.C_drew ?_))); (case side4 => exact (Kd.R_reads' HO159.out).2.1); rintro e w115 ⟨v162, v165, rfl, ho0, ho1, hb⟩; refine ⟨_, rfl, ?_⟩; have n0_ := Aside0.mk (Kd.R_elder' (by (with_reducible repeat (first | apply Kd.R_alloc | apply Kd.R_drewN | apply Kd.R_drew)); exact HO_119001.out) (Kd.R_base ho0) hb); have n1_ := Aside0.mk (Kd.R_elder' (by (with_reducible repeat (first | apply Kd.R_alloc | apply Kd.R_drewN | apply Kd.R_drew)); exact HO_119002.out) (Kd.R_base ho1) hb); have n2_ := Aside0.mk (Kd.R_elder' (by (with_reducible repeat (first | apply Kd.R_alloc | apply Kd.R_drewN | apply Kd.R_drew)); exact HO_127001.out) (Kd.R_base ho0) hb); have n3_ := Aside0.mk (Kd.R_elder' (by (with_reducible repeat (first | apply Kd.R_alloc | apply Kd.R_drewN | apply Kd.R_drew)); exact HO_127002.out) (Kd.R_base ho1) hb); have n4_ := Aside0.mk (Kd.R_elder' (by (with_reducible repeat (first | apply Kd.R_alloc | apply Kd.R_drewN | apply Kd.R_drew)); exact HO_136001.out) (Kd.R_base ho0) hb); have n5_ := Aside0.mk (Kd.R_elder' (by (with_reducible repeat (first | apply Kd.R_alloc | apply Kd.R_drewN | apply Kd.R_drew)); exact HO_136002.out) (Kd.R_base ho1) hb); have n6_ := Aside0.mk (Kd.R_elder' (by (with_reducible repeat (first | apply Kd.R_alloc | apply Kd.R_drewN | apply Kd.R_drew)); exact HO156.out) (Kd.R_base ho0) hb); have n7_ := Aside0.mk (Kd.R_elder' (by (with_reducible repeat (first | apply Kd.R_alloc | apply Kd.R_drewN | apply Kd.R_drew)); exact HO159.out) (Kd.R_base ho1) hb); have n8_ := Aside0.mk (Kd.R_lower (Kd.R_new' (Kd.R_new' (Kd.R_new' (Kd.R_new' ho0 (Kd.R_lt (by (with_reducible repeat (first | apply Kd.R_alloc | apply Kd.R_drewN | apply Kd.R_drew)); exact HO_119001.out))) (Kd.R_lt (by (with_reducible repeat (first | apply Kd.R_alloc | apply Kd.R_drewN | apply Kd.R_drew)); exact HO_127001.out))) (Kd.R_lt (by (with_reducible repeat (first | apply Kd.R_alloc | apply Kd.R_drewN | apply Kd.R_drew)); exact HO_136001.out))) (Kd.R_lt (by (with_reducible repeat (first | apply Kd.R_alloc | apply Kd.R_drewN | apply Kd.R_drew)); exact HO156.out))) (below_size (by repeat (first | (with_reducible first | exact HB.out | apply below_alloc | apply pw_below_drewN | apply below_drew1 | refine below_set ?_ GE101.out | refine below_set ?_ GE118.out | refine below_set ?_ GE126.out | refine below_set ?_ GE135.out) | exact HB.out)))); have n9_ := Aside0.mk (Kd.R_lower (Kd.R_new' (Kd.R_new' (Kd.R_new' (Kd.R_new' ho1 (Kd.R_lt (by (with_reducible repeat (first | apply Kd.R_alloc | apply Kd.R_drewN | apply Kd.R_drew)); exact HO_119002.out))) (Kd.R_lt (by (with_reducible repeat (first | apply Kd.R_alloc | apply Kd.R_drewN | apply Kd.R_drew)); exact HO_127002.out))) (Kd.R_lt (by (with_reducible repeat (first | apply Kd.R_alloc | apply Kd.R_drewN | apply Kd.R_drew)); exact HO_136002.out))) (Kd.R_lt (by (with_reducible repeat (first | apply Kd.R_alloc | apply Kd.R_drewN | apply Kd.R_drew)); exact HO159.out))) (below_size (by repeat (first | (with_reducible first | exact HB.out | apply below_alloc | apply pw_below_drewN | apply below_drew1 | refine below_set ?_ GE101.out | refine below_set ?_ GE118.out | refine below_set ?_ GE126.out | refine below_set ?_ GE135.out) | exact HB.out)))); have n10_ := Aside0.mk (blk_below (g := gb101) (o := .cells #[.int .i8 a0_0, .slice A0_1 l0_1.length c0_1, .slice A0_2 l0_2.length c0_2] 26 (0, 0)) (by (with_reducible repeat (first | refine blk_drewN ?_ _ | refine blk_drew ?_ | refine blk_alloc ?_ _)); exact BK101.out) hb); have n11_ := Aside0.mk (blk_below (g := gb118) (o := .cells #[.int .i8 t110, .slice Ao23 t111.length co23, .slice Ao24 t114.length co24] 30 (0, 0)) (by (with_reducible repeat (first | refine blk_drewN ?_ _ | refine blk_drew ?_ | refine blk_alloc ?_ _)); exact BK118.out) hb); have n12_ := Aside0.mk (blk_below (g := gb126) (o := .cells #[.int .i8 t119, .slice Ao31 t146.length co31, .slice Ao32 t147.length co32] 30 (0, 0)) (by (with_reducible repeat (first | refine blk_drewN ?_ _ | refine blk_drew ?_ | refine blk_alloc ?_ _)); exact BK126.out) hb); have n13_ := Aside0.mk (blk_below (g := gb135) (o := .cells #[.int .i8 t127, .slice Ao39 t128.length co39, .slice Ao40 t131.length co40] 30 (0, 0)) (by (with_reducible repeat (first | refine blk_drewN ?_ _ | refine blk_drew ?_ | refine blk_alloc ?_ _)); exact BK135.out) hb); have n14_ := Aside0.mk (below_step (by repeat (first | (with_reducible first | exact HB.out | apply below_alloc | apply pw_below_drewN | apply below_drew1 | refine below_set ?_ GE101.out | refine below_set ?_ GE118.out | refine below_set ?_ GE126.out | refine below_set ?_ GE135.out) | exact HB.out)) hb); clear HO_119001; clear HO_119002; clear HO_127001; clear HO_127002; clear HO_136001; clear HO_136002; clear HO156; clear HO159; clear BK101; clear BK118; clear BK126; clear BK135; clear HB; have HO_119001 := n0_; have HO_119002 := n1_; have HO_127001 := n2_; have HO_127002 := n3_; have HO_136001 := n4_; have HO_136002 := n5_; have HO156 := n6_; have HO159 := n7_; have HO163 := n8_; have HO166 := n9_; have BK101 := n10_; have BK118 := n11_; have BK126 := n12_; have BK135 := n13_; have HB := n14_; clear n0_ n1_ n2_ n3_ n4_ n5_ n6_ n7_ n8_ n9_ n10_ n11_ n12_ n13_ n14_; (try clear hb); (try clear hb2); (try clear hk); (try clear hi); (try clear ho0); (try clear ho1)) | ((with_reducible refine gate_dst (N := 12) rfl ?_); refine box_event ?hg (N := 12) ?hd (cs := #[.int .i8 0, .slice none 0 0, .slice none 0 0]) (t := 30) ?hr ?_; (case hd => rfl); (case hg => rfl); (case hr => first | (go_simp; done) | (go_simp; rfl)); intro gb168 hg w116 hbox hb; have n0_ := Aside0.mk (Kd.R_below (by (with_reducible repeat (first | apply Kd.R_alloc | apply Kd.R_drewN | apply Kd.R_drew)); exact HO_119001.out) hb); have n1_ := Aside0.mk (Kd.R_below (by (with_reducible repeat (first | apply Kd.R_alloc | apply Kd.R_drewN | apply Kd.R_drew)); exact HO_119002.out) hb); have n2_ := Aside0.mk (Kd.R_below (by (with_reducible repeat (first | apply Kd.R_alloc | apply Kd.R_drewN | apply Kd.R_drew)); exact HO_127001.out) hb); have n3_ := Aside0.mk (Kd.R_below (by (with_reducible repeat (first | apply Kd.R_alloc | apply Kd.R_drewN | apply Kd.R_drew)); exact HO_127002.out) hb); have n4_ := Aside0.mk (Kd.R_below (by (with_reducible repeat (first | apply Kd.R_alloc | apply Kd.R_drewN | apply Kd.R_drew)); exact HO_136001.out) hb); have n5_ := Aside0.mk (Kd.R_below (by (with_reducible repeat (first | apply Kd.R_alloc | apply Kd.R_drewN | apply Kd.R_drew)); exact HO_136002.out) hb); have n6_ := Aside0.mk (Kd.R_below (by (with_reducible repeat (first | apply Kd.R_alloc | apply Kd.R_drewN | apply Kd.R_drew)); exact HO156.out) hb); have n7_ := Aside0.mk (Kd.R_below (by (with_reducible repeat (first | apply Kd.R_alloc | apply Kd.R_drewN | apply Kd.R_drew)); exact HO159.out) hb); have n8_ := Aside0.mk (Kd.R_below (by (with_reducible repeat (first | apply Kd.R_alloc | apply Kd.R_drewN | apply Kd.R_drew)); exact HO163.out) hb); have n9_ := Aside0.mk (Kd.R_below (by (with_reducible repeat (first | apply Kd.R_alloc | apply Kd.R_drewN | apply Kd.R_drew)); exact HO166.out) hb); have n10_ := Aside0.mk (blk_below (g := gb101) (o := .cells #[.int .i8 a0_0, .slice A0_1 l0_1.length c0_1, .slice A0_2 l0_2.length c0_2] 26 (0, 0)) (by (with_reducible repeat (first | refine blk_drewN ?_ _ | refine blk_drew ?_ | refine blk_alloc ?_ _)); exact BK101.out) hb); have n11_ := Aside0.mk (blk_below (g := gb118) (o := .cells #[.int .i8 t110, .slice Ao23 t111.length co23, .slice Ao24 t114.length co24] 30 (0, 0)) (by (with_reducible repeat (first | refine blk_drewN ?_ _ | refine blk_drew ?_ | refine blk_alloc ?_ _)); exact BK118.out) hb); have n12_ := Aside0.mk (blk_below (g := gb126) (o := .cells #[.int .i8 t119, .slice Ao31 t146.length co31, .slice Ao32 t147.length co32] 30 (0, 0)) (by (with_reducible repeat (first | refine blk_drewN ?_ _ | refine blk_drew ?_ | refine blk_alloc ?_ _)); exact BK126.out) hb); have n13_ := Aside0.mk (blk_below (g := gb135) (o := .cells #[.int .i8 t127, .slice Ao39 t128.length co39, .slice Ao40 t131.length co40] 30 (0, 0)) (by (with_reducible repeat (first | refine blk_drewN ?_ _ | refine blk_drew ?_ | refine blk_alloc ?_ _)); exact BK135.out) hb); have n14_ := Aside0.mk (below_step (by repeat (first | (with_reducible first | exact HB.out | apply below_alloc | apply pw_below_drewN | apply below_drew1 | refine below_set ?_ GE101.out | refine below_set ?_ GE118.out | refine below_set ?_ GE126.out | refine below_set ?_ GE135.out) | exact HB.out)) hb); have n15_ := Aside0.mk (hbox); have n16_ := Aside0.mk ((by rw [hg]; exact (below_size (by repeat (first | (with_reducible first | exact HB.out | apply below_alloc | apply pw_below_drewN | apply below_drew1 | refine below_set ?_ GE101.out | refine below_set ?_ GE118.out | refine below_set ?_ GE126.out | refine below_set ?_ GE135.out) | exact HB.out))) : w.heap.size ≤ gb168)); have n17_ := Aside0.mk ((by rw [hg]; exact (below_size (by repeat (first | (with_reducible first | exact HB.out | apply below_alloc | apply pw_below_drewN | apply below_drew1 | refine below_set ?_ GE101.out | refine below_set ?_ GE118.out | refine below_set ?_ GE126.out | refine below_set ?_ GE135.out) | exact HB.out))) : w.heap.size ≤ gb168)); have n18_ := Aside0.mk ((by rw [hg]; exact Nat.ne_of_lt (blk_lt (g := gb101) (o := .cells #[.int .i8 a0_0, .slice A0_1 l0_1.length c0_1, .slice A0_2 l0_2.length c0_2] 26 (0, 0)) (by (with_reducible repeat (first | refine blk_drewN ?_ _ | refine blk_drew ?_ | refine blk_alloc ?_ _)); exact BK101.out)) : gb101 ≠ gb168)); have n19_ := Aside0.mk ((by rw [hg]; exact Nat.ne_of_gt (blk_lt (g := gb101) (o := .cells #[.int .i8 a0_0, .slice A0_1 l0_1.length c0_1, .slice A0_2 l0_2.length c0_2] 26 (0, 0)) (by (with_reducible repeat (first | refine blk_drewN ?_ _ | refine blk_drew ?_ | refine blk_alloc ?_ _)); exact BK101.out)) : gb168 ≠ gb101)); have n20_ := Aside0.mk ((by rw [hg]; exact Nat.ne_of_lt (blk_lt (g := gb118) (o := .cells #[.int .i8 t110, .slice Ao23 t111.length co23, .slice Ao24 t114.length co24] 30 (0, 0)) (by (with_reducible repeat (first | refine blk_drewN ?_ _ | refine blk_drew ?_ | refine blk_alloc ?_ _)); exact BK118.out)) : gb118 ≠ gb168)); have n21_ := Aside0.mk ((by rw [hg]; exact Nat.ne_of_gt (blk_lt (g := gb118) (o := .cells #[.int .i8 t110, .slice Ao23 t111.length co23, .slice Ao24 t114.length co24] 30 (0, 0)) (by (with_reducible repeat (first | refine blk_drewN ?_ _ | refine blk_drew ?_ | refine blk_alloc ?_ _)); exact BK118.out)) : gb168 ≠ gb118)); have n22_ := Aside0.mk ((by rw [hg]; exact Nat.ne_of_lt (blk_lt (g := gb126) (o := .cells #[.int .i8 t119, .slice Ao31 t146.length co31, .slice Ao32 t147.length co32] 30 (0, 0)) (by (with_reducible repeat (first | refine blk_drewN ?_ _ | refine blk_drew ?_ | refine blk_alloc ?_ _)); exact BK126.out)) : gb126 ≠ gb168)); have n23_ := Aside0.mk ((by rw [hg]; exact Nat.ne_of_gt (blk_lt (g := gb126) (o := .cells #[.int .i8 t119, .slice Ao31 t146.length co31, .slice Ao32 t147.length co32] 30 (0, 0)) (by (with_reducible repeat (first | refine blk_drewN ?_ _ | refine blk_drew ?_ | refine blk_alloc ?_ _)); exact BK126.out)) : gb168 ≠ gb126)); have n24_ := Aside0.mk ((by rw [hg]; exact Nat.ne_of_lt (blk_lt (g := gb135) (o := .cells #[.int .i8 t127, .slice Ao39 t128.length co39, .slice Ao40 t131.length co40] 30 (0, 0)) (by (with_reducible repeat (first | refine blk_drewN ?_ _ | refine blk_drew ?_ | refine blk_alloc ?_ _)); exact BK135.out)) : gb135 ≠ gb168)); have n25_ := Aside0.mk ((by rw [hg]; exact Nat.ne_of_gt (blk_lt (g := gb135) (o := .cells #[.int .i8 t127, .slice Ao39 t128.length co39, .slice Ao40 t131.length co40] 30 (0, 0)) (by (with_reducible repeat (first | refine blk_drewN ?_ _ | refine blk_drew ?_ | refine blk_alloc ?_ _)); exact BK135.out)) : gb168 ≠ gb135)); clear HO_119001; clear HO_119002; clear HO_127001; clear HO_127002; clear HO_136001; clear HO_136002; clear HO156; clear HO159; clear HO163; clear HO166; clear BK101; clear BK118; clear BK126; clear BK135; clear HB; have HO_119001 := n0_; have HO_119002 := n1_; have HO_127001 := n2_; have HO_127002 := n3_; have HO_136001 := n4_; have HO_136002 := n5_; have HO156 := n6_; have HO159 := n7_; have HO163 := n8_; have HO166 := n9_; have BK101 := n10_; have BK118 := n11_; have BK126 := n12_; have BK135 := n13_; have HB := n14_; have BK168 := n15_; have GW168 := n16_; have GE168 := n17_; have NB101_168 := n18_; have NB168_101 := n19_; have NB118_168 := n20_; have NB168_118 := n21_; have NB126_168 := n22_; have NB168_126 := n23_; have NB135_168 := n24_; have NB168_135 := n25_; clear n0_ n1_ n2_ n3_ n4_ n5_ n6_ n7_ n8_ n9_ n10_ n11_ n12_ n13_ n14_ n15_ n16_ n17_ n18_ n19_ n20_ n21_ n22_ n23_ n24_ n25_; clear hb hbox hg; have hnb117 := NB168_101.out; have hnc117 := NB101_168.out; have hnb118 := NB168_118.out; have hnc118 := NB118_168.out; have hnb119 := NB168_126.out; have hnc119 := NB126_168.out; have hnb120 := NB168_135.out; have hnc120 := NB135_168.out; have hcz121_0 : w116.cell? ⟨gb168, 0, none⟩ = some (.int .i8 0) := (blk_cell BK168.out 0).trans rfl; have hcz121_1 : w116.cell? ⟨gb168, 1, none⟩ = some (.slice none 0 0) := (blk_cell BK168.out 1).trans rfl; have hcz121_2 : w116.cell? ⟨gb168, 2, none⟩ = some (.slice none 0 0) := (blk_cell BK168.out 2).trans rfl; have hfz121_0 := blk_frozen BK168.out 0; have hfz121_1 := blk_frozen BK168.out 1; have hfz121_2 := blk_frozen BK168.out 2; obtain ⟨Ao122, co122, eo122⟩ := Kd.R_slice HO163.out; subst eo122; obtain ⟨Ao123, co123, eo123⟩ := Kd.R_slice HO166.out; subst eo123))
                      (try simp only [Act.put, List.setIfInBounds_toArray, List.set_cons_zero, List.set_cons_succ])
                      go_cut [87] (fun v87 wc => ∃ (kq : Nat) (x87_100 : Bool), v87 = .bool x87_100 ∧ Aside0 (laws_FnExactMergeCircuit.j2 kq t149 x87_100 t127 t150 t151 = some r) ∧ Aside0 (kq ≤ kj63) ∧ Aside0 (Kd.R k68 68 wc w.heap.size (fun k_ => some k_ ≠ ((.slice Ao31 t146.length co31) : Value).ownBlock ∧ some k_ ≠ ((.slice Ao39 t128.length co39) : Value).ownBlock ∧ some k_ ≠ ((.slice Ao122 t161.length co122) : Value).ownBlock) (.slice Ao23 t111.length co23) t111) ∧ Aside0 (Kd.R (Kd.int .i16) 66 wc w.heap.size (fun k_ => some k_ ≠ ((.slice Ao32 t147.length co32) : Value).ownBlock ∧ some k_ ≠ ((.slice Ao40 t131.length co40) : Value).ownBlock ∧ some k_ ≠ ((.slice Ao123 t164.length co123) : Value).ownBlock) (.slice Ao24 t114.length co24) t114) ∧ Aside0 (Kd.R k68 68 wc w.heap.size (fun k_ => some k_ ≠ ((.slice Ao23 t111.length co23) : Value).ownBlock ∧ some k_ ≠ ((.slice Ao39 t128.length co39) : Value).ownBlock ∧ some k_ ≠ ((.slice Ao122 t161.length co122) : Value).ownBlock) (.slice Ao31 t146.length co31) t146) ∧ Aside0 (Kd.R (Kd.int .i16) 66 wc w.heap.size (fun k_ => some k_ ≠ ((.slice Ao24 t114.length co24) : Value).ownBlock ∧ some k_ ≠ ((.slice Ao40 t131.length co40) : Value).ownBlock ∧ some k_ ≠ ((.slice Ao123 t164.length co123) : Value).ownBlock) (.slice Ao32 t147.length co32) t147) ∧ Aside0 (Kd.R k68 68 wc w.heap.size (fun k_ => some k_ ≠ ((.slice Ao23 t111.length co23) : Value).ownBlock ∧ some k_ ≠ ((.slice Ao31 t146.length co31) : Value).ownBlock ∧ some k_ ≠ ((.slice Ao122 t161.length co122) : Value).ownBlock) (.slice Ao39 t128.length co39) t150) ∧ Aside0 (Kd.R (Kd.int .i16) 66 wc w.heap.size (fun k_ => some k_ ≠ ((.slice Ao24 t114.length co24) : Value).ownBlock ∧ some k_ ≠ ((.slice Ao32 t147.length co32) : Value).ownBlock ∧ some k_ ≠ ((.slice Ao123 t164.length co123) : Value).ownBlock) (.slice Ao40 t131.length co40) t151) ∧ Aside0 (Kd.R k68 68 wc w.heap.size (fun k_ => some k_ ≠ ((.slice Ao23 t111.length co23) : Value).ownBlock ∧ some k_ ≠ ((.slice Ao31 t146.length co31) : Value).ownBlock ∧ some k_ ≠ ((.slice Ao39 t128.length co39) : Value).ownBlock) (.slice Ao122 t161.length co122) t161) ∧ Aside0 (Kd.R (Kd.int .i16) 66 wc w.heap.size (fun k_ => some k_ ≠ ((.slice Ao24 t114.length co24) : Value).ownBlock ∧ some k_ ≠ ((.slice Ao32 t147.length co32) : Value).ownBlock ∧ some k_ ≠ ((.slice Ao40 t131.length co40) : Value).ownBlock) (.slice Ao123 t164.length co123) t164) ∧ Aside0 (wc.heap[gb101]? = some (.cells #[.int .i8 a0_0, (.slice A0_1 l0_1.length c0_1), (.slice A0_2 l0_2.length c0_2)] 26 (0, 0))) ∧ Aside0 (wc.heap[gb118]? = some (.cells #[.int .i8 t110, (.slice Ao23 t111.length co23), (.slice Ao24 t114.length co24)] 30 (0, 0))) ∧ Aside0 (wc.heap[gb126]? = some (.cells #[.int .i8 t119, (.slice Ao31 t146.length co31), (.slice Ao32 t147.length co32)] 30 (0, 0))) ∧ Aside0 (wc.heap[gb135]? = some (.cells #[.int .i8 t127, (.slice Ao39 t128.length co39), (.slice Ao40 t131.length co40)] 30 (0, 0))) ∧ Aside0 (wc.heap[gb168]? = some (.cells #[.int .i8 t160, (.slice Ao122 t161.length co122), (.slice Ao123 t164.length co123)] 30 (0, 0))) ∧ Aside0 (Below w.heap.size w wc))
                      case first =>
                        have H := HC101.out
                        clear HC101
                        replace H := Option.bind_eq_some_iff.mp H
                        obtain ⟨t169, A1240, H⟩ := H
                        replace H : (if t169 = true then (laws_FnExactMergeCircuit.j2 kj63 t149 (t167 != t117) t127 t150 t151) else (laws_FnExactMergeCircuit.j2 kj63 t149 true t127 t150 t151)) = some r := H
                        have A124 := Aside0.mk A1240
                        clear A1240
                        by_cases c125 : t169 = true
                        · subst c125
                          have H1 : (laws_FnExactMergeCircuit.j2 kj63 t149 (t167 != t117) t127 t150 t151) = some r := by rw [if_pos rfl] at H; exact H
                          clear H
                          have H := H1
                          clear H1
                          have H' := Aside0.mk H
                          clear H
                          have hnb126 := NB168_101.out
                          have hnc126 := NB101_168.out
                          have hnb127 := NB168_118.out
                          have hnc127 := NB118_168.out
                          have hnb128 := NB168_126.out
                          have hnc128 := NB126_168.out
                          have hnb129 := NB168_135.out
                          have hnc129 := NB135_168.out
                          have hcz130_0 : w116.cell? ⟨gb168, 0, none⟩ = some (.int .i8 0) := (blk_cell BK168.out 0).trans rfl
                          have hcz130_1 : w116.cell? ⟨gb168, 1, none⟩ = some (.slice none 0 0) := (blk_cell BK168.out 1).trans rfl
                          have hcz130_2 : w116.cell? ⟨gb168, 2, none⟩ = some (.slice none 0 0) := (blk_cell BK168.out 2).trans rfl
                          have hfz130_0 := blk_frozen BK168.out 0
                          have hfz130_1 := blk_frozen BK168.out 1
                          have hfz130_2 := blk_frozen BK168.out 2
                          have hnb131 := NB118_101.out
                          have hnc131 := NB101_118.out
                          have hnb132 := NB118_126.out
                          have hnc132 := NB126_118.out
                          have hnb133 := NB118_135.out
                          have hnc133 := NB135_118.out
                          have hcz134_0 : w116.cell? ⟨gb118, 0, none⟩ = some (.int .i8 t110) := (blk_cell BK118.out 0).trans rfl
                          have hcz134_1 : w116.cell? ⟨gb118, 1, none⟩ = some (.slice Ao23 t111.length co23) := (blk_cell BK118.out 1).trans rfl
                          have hcz134_2 : w116.cell? ⟨gb118, 2, none⟩ = some (.slice Ao24 t114.length co24) := (blk_cell BK118.out 2).trans rfl
                          have hfz134_0 := blk_frozen BK118.out 0
                          have hfz134_1 := blk_frozen BK118.out 1
                          have hfz134_2 := blk_frozen BK118.out 2
                          go_wp2_with (first | ((with_reducible refine gate_callee (f := 13) rfl ?_); refine goesL_ (some 81) rfl rfl Try.func13 (by kernel_rfl) rfl #[.agg #[.int .i8 t160, .slice Ao122 t161.length co122, .slice Ao123 t164.length co123], .agg #[.int .i8 t110, .slice Ao23 t111.length co23, .slice Ao24 t114.length co24]] rfl (by (try simp only [List.map_toArray, List.map_cons, List.map_nil]); first | done | rfl | (simp only [List.length_drop, List.length_take]; rfl)) ?_; (with_reducible refine (laws_eqCircuit.calls kj63 t160 _ _ t161 _ _ t164 t110 _ _ t111 _ _ t114 true _ ?side1 ?side2 ?side3 ?side4 ?side5 ?side6 ?side7 ?side8 A124.out).mono ?_); (case side1 => refine (Kd.R_reads' (e := 68) (base := w.heap.size) (ok := fun k_ => ((((True ∧ some k_ ≠ (.slice Ao23 t111.length co23 : Value).ownBlock) ∧ some k_ ≠ (.slice Ao31 t146.length co31 : Value).ownBlock) ∧ some k_ ≠ (.slice Ao39 t128.length co39 : Value).ownBlock) ∧ some k_ ≠ (.slice Ao113 t154.length co113 : Value).ownBlock)) (n := t161.length) (c := co122) ?_).2.2; exact (by (with_reducible repeat (first | apply Kd.R_alloc | apply Kd.R_drewN | apply Kd.R_drew)); exact (Kd.R_mono (Kd.R_far (p := ⟨gb168, 2, none⟩) (Kd.R_far (p := ⟨gb168, 1, none⟩) (Kd.R_far (p := ⟨gb168, 0, none⟩) (Kd.R_types HO163.out BK168.out (by decide)) (fun _ hk => hk.2) (.int .i8 t160)) (fun _ hk => hk.2) (.slice Ao122 t161.length co122)) (fun _ hk => hk.2) (.slice Ao123 t164.length co123)) (fun _ h_ => h_.1)))); (case side2 => exact (Kd.R_reads' HO163.out).2.1); (case side3 => refine (Kd.R_reads' (e := 66) (base := w.heap.size) (ok := fun k_ => ((((True ∧ some k_ ≠ (.slice Ao24 t114.length co24 : Value).ownBlock) ∧ some k_ ≠ (.slice Ao32 t147.length co32 : Value).ownBlock) ∧ some k_ ≠ (.slice Ao40 t131.length co40 : Value).ownBlock) ∧ some k_ ≠ (.slice Ao114 t157.length co114 : Value).ownBlock)) (n := t164.length) (c := co123) ?_).2.2; exact (by (with_reducible repeat (first | apply Kd.R_alloc | apply Kd.R_drewN | apply Kd.R_drew)); exact (Kd.R_mono (Kd.R_far (p := ⟨gb168, 2, none⟩) (Kd.R_far (p := ⟨gb168, 1, none⟩) (Kd.R_far (p := ⟨gb168, 0, none⟩) (Kd.R_types HO166.out BK168.out (by decide)) (fun _ hk => hk.2) (.int .i8 t160)) (fun _ hk => hk.2) (.slice Ao122 t161.length co122)) (fun _ hk => hk.2) (.slice Ao123 t164.length co123)) (fun _ h_ => h_.1)))); (case side4 => exact (Kd.R_reads' HO166.out).2.1); (case side5 => refine (Kd.R_reads' (e := 68) (base := w.heap.size) (ok := fun k_ => (((some k_ ≠ (.slice Ao31 t146.length co31 : Value).ownBlock ∧ some k_ ≠ (.slice Ao39 t128.length co39 : Value).ownBlock) ∧ some k_ ≠ (.slice Ao113 t154.length co113 : Value).ownBlock) ∧ some k_ ≠ (.slice Ao122 t161.length co122 : Value).ownBlock)) (n := t111.length) (c := co23) ?_).2.2; exact (by (with_reducible repeat (first | apply Kd.R_alloc | apply Kd.R_drewN | apply Kd.R_drew)); exact (Kd.R_mono (Kd.R_far (p := ⟨gb168, 2, none⟩) (Kd.R_far (p := ⟨gb168, 1, none⟩) (Kd.R_far (p := ⟨gb168, 0, none⟩) (Kd.R_types HO_119001.out BK168.out (by decide)) (fun _ hk => hk.2) (.int .i8 t160)) (fun _ hk => hk.2) (.slice Ao122 t161.length co122)) (fun _ hk => hk.2) (.slice Ao123 t164.length co123)) (fun _ h_ => h_.1)))); (case side6 => exact (Kd.R_reads' HO_119001.out).2.1); (case side7 => refine (Kd.R_reads' (e := 66) (base := w.heap.size) (ok := fun k_ => (((some k_ ≠ (.slice Ao32 t147.length co32 : Value).ownBlock ∧ some k_ ≠ (.slice Ao40 t131.length co40 : Value).ownBlock) ∧ some k_ ≠ (.slice Ao114 t157.length co114 : Value).ownBlock) ∧ some k_ ≠ (.slice Ao123 t164.length co123 : Value).ownBlock)) (n := t114.length) (c := co24) ?_).2.2; exact (by (with_reducible repeat (first | apply Kd.R_alloc | apply Kd.R_drewN | apply Kd.R_drew)); exact (Kd.R_mono (Kd.R_far (p := ⟨gb168, 2, none⟩) (Kd.R_far (p := ⟨gb168, 1, none⟩) (Kd.R_far (p := ⟨gb168, 0, none⟩) (Kd.R_types HO_119002.out BK168.out (by decide)) (fun _ hk => hk.2) (.int .i8 t160)) (fun _ hk => hk.2) (.slice Ao122 t161.length co122)) (fun _ hk => hk.2) (.slice Ao123 t164.length co123)) (fun _ h_ => h_.1)))); (case side8 => exact (Kd.R_reads' HO_119002.out).2.1); rintro e w135 ⟨rfl, hb⟩; refine ⟨_, rfl, ?_⟩; have n0_ := Aside0.mk (Kd.R_below (by (with_reducible repeat (first | apply Kd.R_alloc | apply Kd.R_drewN | apply Kd.R_drew)); exact (Kd.R_mono (Kd.R_far (p := ⟨gb168, 2, none⟩) (Kd.R_far (p := ⟨gb168, 1, none⟩) (Kd.R_far (p := ⟨gb168, 0, none⟩) (Kd.R_types HO_119001.out BK168.out (by decide)) (fun _ hk => hk.2) (.int .i8 t160)) (fun _ hk => hk.2) (.slice Ao122 t161.length co122)) (fun _ hk => hk.2) (.slice Ao123 t164.length co123)) (fun _ h_ => h_.1))) hb); have n1_ := Aside0.mk (Kd.R_below (by (with_reducible repeat (first | apply Kd.R_alloc | apply Kd.R_drewN | apply Kd.R_drew)); exact (Kd.R_mono (Kd.R_far (p := ⟨gb168, 2, none⟩) (Kd.R_far (p := ⟨gb168, 1, none⟩) (Kd.R_far (p := ⟨gb168, 0, none⟩) (Kd.R_types HO_119002.out BK168.out (by decide)) (fun _ hk => hk.2) (.int .i8 t160)) (fun _ hk => hk.2) (.slice Ao122 t161.length co122)) (fun _ hk => hk.2) (.slice Ao123 t164.length co123)) (fun _ h_ => h_.1))) hb); have n2_ := Aside0.mk (Kd.R_below (by (with_reducible repeat (first | apply Kd.R_alloc | apply Kd.R_drewN | apply Kd.R_drew)); exact (Kd.R_mono (Kd.R_far (p := ⟨gb168, 2, none⟩) (Kd.R_far (p := ⟨gb168, 1, none⟩) (Kd.R_far (p := ⟨gb168, 0, none⟩) (Kd.R_types HO_127001.out BK168.out (by decide)) (fun _ hk => hk.2) (.int .i8 t160)) (fun _ hk => hk.2) (.slice Ao122 t161.length co122)) (fun _ hk => hk.2) (.slice Ao123 t164.length co123)) (fun _ h_ => h_.1))) hb); have n3_ := Aside0.mk (Kd.R_below (by (with_reducible repeat (first | apply Kd.R_alloc | apply Kd.R_drewN | apply Kd.R_drew)); exact (Kd.R_mono (Kd.R_far (p := ⟨gb168, 2, none⟩) (Kd.R_far (p := ⟨gb168, 1, none⟩) (Kd.R_far (p := ⟨gb168, 0, none⟩) (Kd.R_types HO_127002.out BK168.out (by decide)) (fun _ hk => hk.2) (.int .i8 t160)) (fun _ hk => hk.2) (.slice Ao122 t161.length co122)) (fun _ hk => hk.2) (.slice Ao123 t164.length co123)) (fun _ h_ => h_.1))) hb); have n4_ := Aside0.mk (Kd.R_below (by (with_reducible repeat (first | apply Kd.R_alloc | apply Kd.R_drewN | apply Kd.R_drew)); exact (Kd.R_mono (Kd.R_far (p := ⟨gb168, 2, none⟩) (Kd.R_far (p := ⟨gb168, 1, none⟩) (Kd.R_far (p := ⟨gb168, 0, none⟩) (Kd.R_types HO_136001.out BK168.out (by decide)) (fun _ hk => hk.2) (.int .i8 t160)) (fun _ hk => hk.2) (.slice Ao122 t161.length co122)) (fun _ hk => hk.2) (.slice Ao123 t164.length co123)) (fun _ h_ => h_.1))) hb); have n5_ := Aside0.mk (Kd.R_below (by (with_reducible repeat (first | apply Kd.R_alloc | apply Kd.R_drewN | apply Kd.R_drew)); exact (Kd.R_mono (Kd.R_far (p := ⟨gb168, 2, none⟩) (Kd.R_far (p := ⟨gb168, 1, none⟩) (Kd.R_far (p := ⟨gb168, 0, none⟩) (Kd.R_types HO_136002.out BK168.out (by decide)) (fun _ hk => hk.2) (.int .i8 t160)) (fun _ hk => hk.2) (.slice Ao122 t161.length co122)) (fun _ hk => hk.2) (.slice Ao123 t164.length co123)) (fun _ h_ => h_.1))) hb); have n6_ := Aside0.mk (Kd.R_below (by (with_reducible repeat (first | apply Kd.R_alloc | apply Kd.R_drewN | apply Kd.R_drew)); exact (Kd.R_mono (Kd.R_far (p := ⟨gb168, 2, none⟩) (Kd.R_far (p := ⟨gb168, 1, none⟩) (Kd.R_far (p := ⟨gb168, 0, none⟩) (Kd.R_types HO156.out BK168.out (by decide)) (fun _ hk => hk.2) (.int .i8 t160)) (fun _ hk => hk.2) (.slice Ao122 t161.length co122)) (fun _ hk => hk.2) (.slice Ao123 t164.length co123)) (fun _ h_ => h_.1))) hb); have n7_ := Aside0.mk (Kd.R_below (by (with_reducible repeat (first | apply Kd.R_alloc | apply Kd.R_drewN | apply Kd.R_drew)); exact (Kd.R_mono (Kd.R_far (p := ⟨gb168, 2, none⟩) (Kd.R_far (p := ⟨gb168, 1, none⟩) (Kd.R_far (p := ⟨gb168, 0, none⟩) (Kd.R_types HO159.out BK168.out (by decide)) (fun _ hk => hk.2) (.int .i8 t160)) (fun _ hk => hk.2) (.slice Ao122 t161.length co122)) (fun _ hk => hk.2) (.slice Ao123 t164.length co123)) (fun _ h_ => h_.1))) hb); have n8_ := Aside0.mk (Kd.R_below (by (with_reducible repeat (first | apply Kd.R_alloc | apply Kd.R_drewN | apply Kd.R_drew)); exact (Kd.R_mono (Kd.R_far (p := ⟨gb168, 2, none⟩) (Kd.R_far (p := ⟨gb168, 1, none⟩) (Kd.R_far (p := ⟨gb168, 0, none⟩) (Kd.R_types HO163.out BK168.out (by decide)) (fun _ hk => hk.2) (.int .i8 t160)) (fun _ hk => hk.2) (.slice Ao122 t161.length co122)) (fun _ hk => hk.2) (.slice Ao123 t164.length co123)) (fun _ h_ => h_.1))) hb); have n9_ := Aside0.mk (Kd.R_below (by (with_reducible repeat (first | apply Kd.R_alloc | apply Kd.R_drewN | apply Kd.R_drew)); exact (Kd.R_mono (Kd.R_far (p := ⟨gb168, 2, none⟩) (Kd.R_far (p := ⟨gb168, 1, none⟩) (Kd.R_far (p := ⟨gb168, 0, none⟩) (Kd.R_types HO166.out BK168.out (by decide)) (fun _ hk => hk.2) (.int .i8 t160)) (fun _ hk => hk.2) (.slice Ao122 t161.length co122)) (fun _ hk => hk.2) (.slice Ao123 t164.length co123)) (fun _ h_ => h_.1))) hb); have n10_ := Aside0.mk (blk_below (g := gb101) (o := .cells #[.int .i8 a0_0, .slice A0_1 l0_1.length c0_1, .slice A0_2 l0_2.length c0_2] 26 (0, 0)) (by (with_reducible repeat (first | refine blk_drewN ?_ _ | refine blk_drew ?_ | refine blk_alloc ?_ _)); refine blk_far ?_ NB101_168.out _; (with_reducible repeat (first | refine blk_drewN ?_ _ | refine blk_drew ?_ | refine blk_alloc ?_ _)); refine blk_far ?_ NB101_168.out _; (with_reducible repeat (first | refine blk_drewN ?_ _ | refine blk_drew ?_ | refine blk_alloc ?_ _)); refine blk_far ?_ NB101_168.out _; (with_reducible repeat (first | refine blk_drewN ?_ _ | refine blk_drew ?_ | refine blk_alloc ?_ _)); exact BK101.out) hb); have n11_ := Aside0.mk (blk_below (g := gb118) (o := .cells #[.int .i8 t110, .slice Ao23 t111.length co23, .slice Ao24 t114.length co24] 30 (0, 0)) (by (with_reducible repeat (first | refine blk_drewN ?_ _ | refine blk_drew ?_ | refine blk_alloc ?_ _)); refine blk_far ?_ NB118_168.out _; (with_reducible repeat (first | refine blk_drewN ?_ _ | refine blk_drew ?_ | refine blk_alloc ?_ _)); refine blk_far ?_ NB118_168.out _; (with_reducible repeat (first | refine blk_drewN ?_ _ | refine blk_drew ?_ | refine blk_alloc ?_ _)); refine blk_far ?_ NB118_168.out _; (with_reducible repeat (first | refine blk_drewN ?_ _ | refine blk_drew ?_ | refine blk_alloc ?_ _)); exact BK118.out) hb); have n12_ := Aside0.mk (blk_below (g := gb126) (o := .cells #[.int .i8 t119, .slice Ao31 t146.length co31, .slice Ao32 t147.length co32] 30 (0, 0)) (by (with_reducible repeat (first | refine blk_drewN ?_ _ | refine blk_drew ?_ | refine blk_alloc ?_ _)); refine blk_far ?_ NB126_168.out _; (with_reducible repeat (first | refine blk_drewN ?_ _ | refine blk_drew ?_ | refine blk_alloc ?_ _)); refine blk_far ?_ NB126_168.out _; (with_reducible repeat (first | refine blk_drewN ?_ _ | refine blk_drew ?_ | refine blk_alloc ?_ _)); refine blk_far ?_ NB126_168.out _; (with_reducible repeat (first | refine blk_drewN ?_ _ | refine blk_drew ?_ | refine blk_alloc ?_ _)); exact BK126.out) hb); have n13_ := Aside0.mk (blk_below (g := gb135) (o := .cells #[.int .i8 t127, .slice Ao39 t128.length co39, .slice Ao40 t131.length co40] 30 (0, 0)) (by (with_reducible repeat (first | refine blk_drewN ?_ _ | refine blk_drew ?_ | refine blk_alloc ?_ _)); refine blk_far ?_ NB135_168.out _; (with_reducible repeat (first | refine blk_drewN ?_ _ | refine blk_drew ?_ | refine blk_alloc ?_ _)); refine blk_far ?_ NB135_168.out _; (with_reducible repeat (first | refine blk_drewN ?_ _ | refine blk_drew ?_ | refine blk_alloc ?_ _)); refine blk_far ?_ NB135_168.out _; (with_reducible repeat (first | refine blk_drewN ?_ _ | refine blk_drew ?_ | refine blk_alloc ?_ _)); exact BK135.out) hb); have n14_ := Aside0.mk (blk_below (g := gb168) (o := .cells #[.int .i8 t160, .slice Ao122 t161.length co122, .slice Ao123 t164.length co123] 30 (0, 0)) (by (with_reducible repeat (first | refine blk_drewN ?_ _ | refine blk_drew ?_ | refine blk_alloc ?_ _)); refine blk_put (cs := #[.int .i8 t160, .slice Ao122 t161.length co122, .slice none 0 0]) ?_ 2 _ rfl; (with_reducible repeat (first | refine blk_drewN ?_ _ | refine blk_drew ?_ | refine blk_alloc ?_ _)); refine blk_put (cs := #[.int .i8 t160, .slice none 0 0, .slice none 0 0]) ?_ 1 _ rfl; (with_reducible repeat (first | refine blk_drewN ?_ _ | refine blk_drew ?_ | refine blk_alloc ?_ _)); refine blk_put (cs := #[.int .i8 0, .slice none 0 0, .slice none 0 0]) ?_ 0 _ rfl; (with_reducible repeat (first | refine blk_drewN ?_ _ | refine blk_drew ?_ | refine blk_alloc ?_ _)); exact BK168.out) hb); have n15_ := Aside0.mk (below_step (by repeat (first | (with_reducible first | exact HB.out | apply below_alloc | apply pw_below_drewN | apply below_drew1 | refine below_set ?_ GE101.out | refine below_set ?_ GE118.out | refine below_set ?_ GE126.out | refine below_set ?_ GE135.out | refine below_set ?_ GE168.out) | exact HB.out)) hb); clear HO_119001; clear HO_119002; clear HO_127001; clear HO_127002; clear HO_136001; clear HO_136002; clear HO156; clear HO159; clear HO163; clear HO166; clear BK101; clear BK118; clear BK126; clear BK135; clear BK168; clear HB; have HO_119001 := n0_; have HO_119002 := n1_; have HO_127001 := n2_; have HO_127002 := n3_; have HO_136001 := n4_; have HO_136002 := n5_; have HO156 := n6_; have HO159 := n7_; have HO163 := n8_; have HO166 := n9_; have BK101 := n10_; have BK118 := n11_; have BK126 := n12_; have BK135 := n13_; have BK168 := n14_; have HB := n15_; clear n0_ n1_ n2_ n3_ n4_ n5_ n6_ n7_ n8_ n9_ n10_ n11_ n12_ n13_ n14_ n15_; (try clear hb); (try clear hb2); (try clear hk); (try clear hi)))
                          go_meet
                          case rel => exact ⟨_, ((t167 != t117)), (by first | rfl | (simp; done) | (simp [*]; done)), H', ⟨by have := HJ10.out; have := HJ63.out; first | omega | exact Nat.le_refl _⟩, ⟨by (try simp only [hl127001_63]); (try simp only [hl127002_63]); (with_reducible repeat (first | apply Kd.R_alloc | apply Kd.R_drewN | apply Kd.R_drew)); exact Kd.R_mono HO_119001.out (fun _ hk => ⟨hk.1.1.1, ⟨hk.1.1.2, hk.2⟩⟩)⟩, ⟨by (try simp only [hl127001_63]); (try simp only [hl127002_63]); (with_reducible repeat (first | apply Kd.R_alloc | apply Kd.R_drewN | apply Kd.R_drew)); exact Kd.R_mono HO_119002.out (fun _ hk => ⟨hk.1.1.1, ⟨hk.1.1.2, hk.2⟩⟩)⟩, ⟨by (try simp only [hl127001_63]); (try simp only [hl127002_63]); (with_reducible repeat (first | apply Kd.R_alloc | apply Kd.R_drewN | apply Kd.R_drew)); exact Kd.R_mono HO_127001.out (fun _ hk => ⟨hk.1.1.1, ⟨hk.1.1.2, hk.2⟩⟩)⟩, ⟨by (try simp only [hl127001_63]); (try simp only [hl127002_63]); (with_reducible repeat (first | apply Kd.R_alloc | apply Kd.R_drewN | apply Kd.R_drew)); exact Kd.R_mono HO_127002.out (fun _ hk => ⟨hk.1.1.1, ⟨hk.1.1.2, hk.2⟩⟩)⟩, ⟨by (try simp only [hl127001_63]); (try simp only [hl127002_63]); (with_reducible repeat (first | apply Kd.R_alloc | apply Kd.R_drewN | apply Kd.R_drew)); exact Kd.R_mono HO_136001.out (fun _ hk => ⟨hk.1.1.1, ⟨hk.1.1.2, hk.2⟩⟩)⟩, ⟨by (try simp only [hl127001_63]); (try simp only [hl127002_63]); (with_reducible repeat (first | apply Kd.R_alloc | apply Kd.R_drewN | apply Kd.R_drew)); exact Kd.R_mono HO_136002.out (fun _ hk => ⟨hk.1.1.1, ⟨hk.1.1.2, hk.2⟩⟩)⟩, ⟨by (try simp only [hl127001_63]); (try simp only [hl127002_63]); (with_reducible repeat (first | apply Kd.R_alloc | apply Kd.R_drewN | apply Kd.R_drew)); exact Kd.R_mono HO163.out (fun _ hk => ⟨hk.1.1.1.2, ⟨hk.1.1.2, hk.1.2⟩⟩)⟩, ⟨by (try simp only [hl127001_63]); (try simp only [hl127002_63]); (with_reducible repeat (first | apply Kd.R_alloc | apply Kd.R_drewN | apply Kd.R_drew)); exact Kd.R_mono HO166.out (fun _ hk => ⟨hk.1.1.1.2, ⟨hk.1.1.2, hk.1.2⟩⟩)⟩, ⟨by (try simp only [hl127001_63]); (try simp only [hl127002_63]); (with_reducible repeat (first | refine blk_drewN ?_ _ | refine blk_drew ?_ | refine blk_alloc ?_ _)); exact BK101.out⟩, ⟨by (try simp only [hl127001_63]); (try simp only [hl127002_63]); (with_reducible repeat (first | refine blk_drewN ?_ _ | refine blk_drew ?_ | refine blk_alloc ?_ _)); exact BK118.out⟩, ⟨by (try simp only [hl127001_63]); (try simp only [hl127002_63]); (with_reducible repeat (first | refine blk_drewN ?_ _ | refine blk_drew ?_ | refine blk_alloc ?_ _)); exact BK126.out⟩, ⟨by (try simp only [hl127001_63]); (try simp only [hl127002_63]); (with_reducible repeat (first | refine blk_drewN ?_ _ | refine blk_drew ?_ | refine blk_alloc ?_ _)); exact BK135.out⟩, ⟨by (try simp only [hl127001_63]); (try simp only [hl127002_63]); (with_reducible repeat (first | refine blk_drewN ?_ _ | refine blk_drew ?_ | refine blk_alloc ?_ _)); exact BK168.out⟩, ⟨by repeat (first | (with_reducible first | exact HB.out | apply below_alloc | apply pw_below_drewN | apply below_drew1 | refine below_set ?_ GE101.out | refine below_set ?_ GE118.out | refine below_set ?_ GE126.out | refine below_set ?_ GE135.out | refine below_set ?_ GE168.out) | exact HB.out)⟩⟩
                        · replace c125 := Bool.eq_false_iff.mpr c125
                          subst c125
                          have H1 : (laws_FnExactMergeCircuit.j2 kj63 t149 true t127 t150 t151) = some r := by rw [if_neg (show ¬ (false = true) by decide)] at H; exact H
                          clear H
                          have H := H1
                          clear H1
                          have H' := Aside0.mk H
                          clear H
                          have hnb136 := NB168_101.out
                          have hnc136 := NB101_168.out
                          have hnb137 := NB168_118.out
                          have hnc137 := NB118_168.out
                          have hnb138 := NB168_126.out
                          have hnc138 := NB126_168.out
                          have hnb139 := NB168_135.out
                          have hnc139 := NB135_168.out
                          have hcz140_0 : w116.cell? ⟨gb168, 0, none⟩ = some (.int .i8 0) := (blk_cell BK168.out 0).trans rfl
                          have hcz140_1 : w116.cell? ⟨gb168, 1, none⟩ = some (.slice none 0 0) := (blk_cell BK168.out 1).trans rfl
                          have hcz140_2 : w116.cell? ⟨gb168, 2, none⟩ = some (.slice none 0 0) := (blk_cell BK168.out 2).trans rfl
                          have hfz140_0 := blk_frozen BK168.out 0
                          have hfz140_1 := blk_frozen BK168.out 1
                          have hfz140_2 := blk_frozen BK168.out 2
                          have hnb141 := NB118_101.out
                          have hnc141 := NB101_118.out
                          have hnb142 := NB118_126.out
                          have hnc142 := NB126_118.out
                          have hnb143 := NB118_135.out
                          have hnc143 := NB135_118.out
                          have hcz144_0 : w116.cell? ⟨gb118, 0, none⟩ = some (.int .i8 t110) := (blk_cell BK118.out 0).trans rfl
                          have hcz144_1 : w116.cell? ⟨gb118, 1, none⟩ = some (.slice Ao23 t111.length co23) := (blk_cell BK118.out 1).trans rfl
                          have hcz144_2 : w116.cell? ⟨gb118, 2, none⟩ = some (.slice Ao24 t114.length co24) := (blk_cell BK118.out 2).trans rfl
                          have hfz144_0 := blk_frozen BK118.out 0
                          have hfz144_1 := blk_frozen BK118.out 1
                          have hfz144_2 := blk_frozen BK118.out 2
                          go_wp2_with (first | ((with_reducible refine gate_callee (f := 13) rfl ?_); refine goesL_ (some 81) rfl rfl Try.func13 (by kernel_rfl) rfl #[.agg #[.int .i8 t160, .slice Ao122 t161.length co122, .slice Ao123 t164.length co123], .agg #[.int .i8 t110, .slice Ao23 t111.length co23, .slice Ao24 t114.length co24]] rfl (by (try simp only [List.map_toArray, List.map_cons, List.map_nil]); first | done | rfl | (simp only [List.length_drop, List.length_take]; rfl)) ?_; (with_reducible refine (laws_eqCircuit.calls kj63 t160 _ _ t161 _ _ t164 t110 _ _ t111 _ _ t114 false _ ?side1 ?side2 ?side3 ?side4 ?side5 ?side6 ?side7 ?side8 A124.out).mono ?_); (case side1 => refine (Kd.R_reads' (e := 68) (base := w.heap.size) (ok := fun k_ => ((((True ∧ some k_ ≠ (.slice Ao23 t111.length co23 : Value).ownBlock) ∧ some k_ ≠ (.slice Ao31 t146.length co31 : Value).ownBlock) ∧ some k_ ≠ (.slice Ao39 t128.length co39 : Value).ownBlock) ∧ some k_ ≠ (.slice Ao113 t154.length co113 : Value).ownBlock)) (n := t161.length) (c := co122) ?_).2.2; exact (by (with_reducible repeat (first | apply Kd.R_alloc | apply Kd.R_drewN | apply Kd.R_drew)); exact (Kd.R_mono (Kd.R_far (p := ⟨gb168, 2, none⟩) (Kd.R_far (p := ⟨gb168, 1, none⟩) (Kd.R_far (p := ⟨gb168, 0, none⟩) (Kd.R_types HO163.out BK168.out (by decide)) (fun _ hk => hk.2) (.int .i8 t160)) (fun _ hk => hk.2) (.slice Ao122 t161.length co122)) (fun _ hk => hk.2) (.slice Ao123 t164.length co123)) (fun _ h_ => h_.1)))); (case side2 => exact (Kd.R_reads' HO163.out).2.1); (case side3 => refine (Kd.R_reads' (e := 66) (base := w.heap.size) (ok := fun k_ => ((((True ∧ some k_ ≠ (.slice Ao24 t114.length co24 : Value).ownBlock) ∧ some k_ ≠ (.slice Ao32 t147.length co32 : Value).ownBlock) ∧ some k_ ≠ (.slice Ao40 t131.length co40 : Value).ownBlock) ∧ some k_ ≠ (.slice Ao114 t157.length co114 : Value).ownBlock)) (n := t164.length) (c := co123) ?_).2.2; exact (by (with_reducible repeat (first | apply Kd.R_alloc | apply Kd.R_drewN | apply Kd.R_drew)); exact (Kd.R_mono (Kd.R_far (p := ⟨gb168, 2, none⟩) (Kd.R_far (p := ⟨gb168, 1, none⟩) (Kd.R_far (p := ⟨gb168, 0, none⟩) (Kd.R_types HO166.out BK168.out (by decide)) (fun _ hk => hk.2) (.int .i8 t160)) (fun _ hk => hk.2) (.slice Ao122 t161.length co122)) (fun _ hk => hk.2) (.slice Ao123 t164.length co123)) (fun _ h_ => h_.1)))); (case side4 => exact (Kd.R_reads' HO166.out).2.1); (case side5 => refine (Kd.R_reads' (e := 68) (base := w.heap.size) (ok := fun k_ => (((some k_ ≠ (.slice Ao31 t146.length co31 : Value).ownBlock ∧ some k_ ≠ (.slice Ao39 t128.length co39 : Value).ownBlock) ∧ some k_ ≠ (.slice Ao113 t154.length co113 : Value).ownBlock) ∧ some k_ ≠ (.slice Ao122 t161.length co122 : Value).ownBlock)) (n := t111.length) (c := co23) ?_).2.2; exact (by (with_reducible repeat (first | apply Kd.R_alloc | apply Kd.R_drewN | apply Kd.R_drew)); exact (Kd.R_mono (Kd.R_far (p := ⟨gb168, 2, none⟩) (Kd.R_far (p := ⟨gb168, 1, none⟩) (Kd.R_far (p := ⟨gb168, 0, none⟩) (Kd.R_types HO_119001.out BK168.out (by decide)) (fun _ hk => hk.2) (.int .i8 t160)) (fun _ hk => hk.2) (.slice Ao122 t161.length co122)) (fun _ hk => hk.2) (.slice Ao123 t164.length co123)) (fun _ h_ => h_.1)))); (case side6 => exact (Kd.R_reads' HO_119001.out).2.1); (case side7 => refine (Kd.R_reads' (e := 66) (base := w.heap.size) (ok := fun k_ => (((some k_ ≠ (.slice Ao32 t147.length co32 : Value).ownBlock ∧ some k_ ≠ (.slice Ao40 t131.length co40 : Value).ownBlock) ∧ some k_ ≠ (.slice Ao114 t157.length co114 : Value).ownBlock) ∧ some k_ ≠ (.slice Ao123 t164.length co123 : Value).ownBlock)) (n := t114.length) (c := co24) ?_).2.2; exact (by (with_reducible repeat (first | apply Kd.R_alloc | apply Kd.R_drewN | apply Kd.R_drew)); exact (Kd.R_mono (Kd.R_far (p := ⟨gb168, 2, none⟩) (Kd.R_far (p := ⟨gb168, 1, none⟩) (Kd.R_far (p := ⟨gb168, 0, none⟩) (Kd.R_types HO_119002.out BK168.out (by decide)) (fun _ hk => hk.2) (.int .i8 t160)) (fun _ hk => hk.2) (.slice Ao122 t161.length co122)) (fun _ hk => hk.2) (.slice Ao123 t164.length co123)) (fun _ h_ => h_.1)))); (case side8 => exact (Kd.R_reads' HO_119002.out).2.1); rintro e w145 ⟨rfl, hb⟩; refine ⟨_, rfl, ?_⟩; have n0_ := Aside0.mk (Kd.R_below (by (with_reducible repeat (first | apply Kd.R_alloc | apply Kd.R_drewN | apply Kd.R_drew)); exact (Kd.R_mono (Kd.R_far (p := ⟨gb168, 2, none⟩) (Kd.R_far (p := ⟨gb168, 1, none⟩) (Kd.R_far (p := ⟨gb168, 0, none⟩) (Kd.R_types HO_119001.out BK168.out (by decide)) (fun _ hk => hk.2) (.int .i8 t160)) (fun _ hk => hk.2) (.slice Ao122 t161.length co122)) (fun _ hk => hk.2) (.slice Ao123 t164.length co123)) (fun _ h_ => h_.1))) hb); have n1_ := Aside0.mk (Kd.R_below (by (with_reducible repeat (first | apply Kd.R_alloc | apply Kd.R_drewN | apply Kd.R_drew)); exact (Kd.R_mono (Kd.R_far (p := ⟨gb168, 2, none⟩) (Kd.R_far (p := ⟨gb168, 1, none⟩) (Kd.R_far (p := ⟨gb168, 0, none⟩) (Kd.R_types HO_119002.out BK168.out (by decide)) (fun _ hk => hk.2) (.int .i8 t160)) (fun _ hk => hk.2) (.slice Ao122 t161.length co122)) (fun _ hk => hk.2) (.slice Ao123 t164.length co123)) (fun _ h_ => h_.1))) hb); have n2_ := Aside0.mk (Kd.R_below (by (with_reducible repeat (first | apply Kd.R_alloc | apply Kd.R_drewN | apply Kd.R_drew)); exact (Kd.R_mono (Kd.R_far (p := ⟨gb168, 2, none⟩) (Kd.R_far (p := ⟨gb168, 1, none⟩) (Kd.R_far (p := ⟨gb168, 0, none⟩) (Kd.R_types HO_127001.out BK168.out (by decide)) (fun _ hk => hk.2) (.int .i8 t160)) (fun _ hk => hk.2) (.slice Ao122 t161.length co122)) (fun _ hk => hk.2) (.slice Ao123 t164.length co123)) (fun _ h_ => h_.1))) hb); have n3_ := Aside0.mk (Kd.R_below (by (with_reducible repeat (first | apply Kd.R_alloc | apply Kd.R_drewN | apply Kd.R_drew)); exact (Kd.R_mono (Kd.R_far (p := ⟨gb168, 2, none⟩) (Kd.R_far (p := ⟨gb168, 1, none⟩) (Kd.R_far (p := ⟨gb168, 0, none⟩) (Kd.R_types HO_127002.out BK168.out (by decide)) (fun _ hk => hk.2) (.int .i8 t160)) (fun _ hk => hk.2) (.slice Ao122 t161.length co122)) (fun _ hk => hk.2) (.slice Ao123 t164.length co123)) (fun _ h_ => h_.1))) hb); have n4_ := Aside0.mk (Kd.R_below (by (with_reducible repeat (first | apply Kd.R_alloc | apply Kd.R_drewN | apply Kd.R_drew)); exact (Kd.R_mono (Kd.R_far (p := ⟨gb168, 2, none⟩) (Kd.R_far (p := ⟨gb168, 1, none⟩) (Kd.R_far (p := ⟨gb168, 0, none⟩) (Kd.R_types HO_136001.out BK168.out (by decide)) (fun _ hk => hk.2) (.int .i8 t160)) (fun _ hk => hk.2) (.slice Ao122 t161.length co122)) (fun _ hk => hk.2) (.slice Ao123 t164.length co123)) (fun _ h_ => h_.1))) hb); have n5_ := Aside0.mk (Kd.R_below (by (with_reducible repeat (first | apply Kd.R_alloc | apply Kd.R_drewN | apply Kd.R_drew)); exact (Kd.R_mono (Kd.R_far (p := ⟨gb168, 2, none⟩) (Kd.R_far (p := ⟨gb168, 1, none⟩) (Kd.R_far (p := ⟨gb168, 0, none⟩) (Kd.R_types HO_136002.out BK168.out (by decide)) (fun _ hk => hk.2) (.int .i8 t160)) (fun _ hk => hk.2) (.slice Ao122 t161.length co122)) (fun _ hk => hk.2) (.slice Ao123 t164.length co123)) (fun _ h_ => h_.1))) hb); have n6_ := Aside0.mk (Kd.R_below (by (with_reducible repeat (first | apply Kd.R_alloc | apply Kd.R_drewN | apply Kd.R_drew)); exact (Kd.R_mono (Kd.R_far (p := ⟨gb168, 2, none⟩) (Kd.R_far (p := ⟨gb168, 1, none⟩) (Kd.R_far (p := ⟨gb168, 0, none⟩) (Kd.R_types HO156.out BK168.out (by decide)) (fun _ hk => hk.2) (.int .i8 t160)) (fun _ hk => hk.2) (.slice Ao122 t161.length co122)) (fun _ hk => hk.2) (.slice Ao123 t164.length co123)) (fun _ h_ => h_.1))) hb); have n7_ := Aside0.mk (Kd.R_below (by (with_reducible repeat (first | apply Kd.R_alloc | apply Kd.R_drewN | apply Kd.R_drew)); exact (Kd.R_mono (Kd.R_far (p := ⟨gb168, 2, none⟩) (Kd.R_far (p := ⟨gb168, 1, none⟩) (Kd.R_far (p := ⟨gb168, 0, none⟩) (Kd.R_types HO159.out BK168.out (by decide)) (fun _ hk => hk.2) (.int .i8 t160)) (fun _ hk => hk.2) (.slice Ao122 t161.length co122)) (fun _ hk => hk.2) (.slice Ao123 t164.length co123)) (fun _ h_ => h_.1))) hb); have n8_ := Aside0.mk (Kd.R_below (by (with_reducible repeat (first | apply Kd.R_alloc | apply Kd.R_drewN | apply Kd.R_drew)); exact (Kd.R_mono (Kd.R_far (p := ⟨gb168, 2, none⟩) (Kd.R_far (p := ⟨gb168, 1, none⟩) (Kd.R_far (p := ⟨gb168, 0, none⟩) (Kd.R_types HO163.out BK168.out (by decide)) (fun _ hk => hk.2) (.int .i8 t160)) (fun _ hk => hk.2) (.slice Ao122 t161.length co122)) (fun _ hk => hk.2) (.slice Ao123 t164.length co123)) (fun _ h_ => h_.1))) hb); have n9_ := Aside0.mk (Kd.R_below (by (with_reducible repeat (first | apply Kd.R_alloc | apply Kd.R_drewN | apply Kd.R_drew)); exact (Kd.R_mono (Kd.R_far (p := ⟨gb168, 2, none⟩) (Kd.R_far (p := ⟨gb168, 1, none⟩) (Kd.R_far (p := ⟨gb168, 0, none⟩) (Kd.R_types HO166.out BK168.out (by decide)) (fun _ hk => hk.2) (.int .i8 t160)) (fun _ hk => hk.2) (.slice Ao122 t161.length co122)) (fun _ hk => hk.2) (.slice Ao123 t164.length co123)) (fun _ h_ => h_.1))) hb); have n10_ := Aside0.mk (blk_below (g := gb101) (o := .cells #[.int .i8 a0_0, .slice A0_1 l0_1.length c0_1, .slice A0_2 l0_2.length c0_2] 26 (0, 0)) (by (with_reducible repeat (first | refine blk_drewN ?_ _ | refine blk_drew ?_ | refine blk_alloc ?_ _)); refine blk_far ?_ NB101_168.out _; (with_reducible repeat (first | refine blk_drewN ?_ _ | refine blk_drew ?_ | refine blk_alloc ?_ _)); refine blk_far ?_ NB101_168.out _; (with_reducible repeat (first | refine blk_drewN ?_ _ | refine blk_drew ?_ | refine blk_alloc ?_ _)); refine blk_far ?_ NB101_168.out _; (with_reducible repeat (first | refine blk_drewN ?_ _ | refine blk_drew ?_ | refine blk_alloc ?_ _)); exact BK101.out) hb); have n11_ := Aside0.mk (blk_below (g := gb118) (o := .cells #[.int .i8 t110, .slice Ao23 t111.length co23, .slice Ao24 t114.length co24] 30 (0, 0)) (by (with_reducible repeat (first | refine blk_drewN ?_ _ | refine blk_drew ?_ | refine blk_alloc ?_ _)); refine blk_far ?_ NB118_168.out _; (with_reducible repeat (first | refine blk_drewN ?_ _ | refine blk_drew ?_ | refine blk_alloc ?_ _)); refine blk_far ?_ NB118_168.out _; (with_reducible repeat (first | refine blk_drewN ?_ _ | refine blk_drew ?_ | refine blk_alloc ?_ _)); refine blk_far ?_ NB118_168.out _; (with_reducible repeat (first | refine blk_drewN ?_ _ | refine blk_drew ?_ | refine blk_alloc ?_ _)); exact BK118.out) hb); have n12_ := Aside0.mk (blk_below (g := gb126) (o := .cells #[.int .i8 t119, .slice Ao31 t146.length co31, .slice Ao32 t147.length co32] 30 (0, 0)) (by (with_reducible repeat (first | refine blk_drewN ?_ _ | refine blk_drew ?_ | refine blk_alloc ?_ _)); refine blk_far ?_ NB126_168.out _; (with_reducible repeat (first | refine blk_drewN ?_ _ | refine blk_drew ?_ | refine blk_alloc ?_ _)); refine blk_far ?_ NB126_168.out _; (with_reducible repeat (first | refine blk_drewN ?_ _ | refine blk_drew ?_ | refine blk_alloc ?_ _)); refine blk_far ?_ NB126_168.out _; (with_reducible repeat (first | refine blk_drewN ?_ _ | refine blk_drew ?_ | refine blk_alloc ?_ _)); exact BK126.out) hb); have n13_ := Aside0.mk (blk_below (g := gb135) (o := .cells #[.int .i8 t127, .slice Ao39 t128.length co39, .slice Ao40 t131.length co40] 30 (0, 0)) (by (with_reducible repeat (first | refine blk_drewN ?_ _ | refine blk_drew ?_ | refine blk_alloc ?_ _)); refine blk_far ?_ NB135_168.out _; (with_reducible repeat (first | refine blk_drewN ?_ _ | refine blk_drew ?_ | refine blk_alloc ?_ _)); refine blk_far ?_ NB135_168.out _; (with_reducible repeat (first | refine blk_drewN ?_ _ | refine blk_drew ?_ | refine blk_alloc ?_ _)); refine blk_far ?_ NB135_168.out _; (with_reducible repeat (first | refine blk_drewN ?_ _ | refine blk_drew ?_ | refine blk_alloc ?_ _)); exact BK135.out) hb); have n14_ := Aside0.mk (blk_below (g := gb168) (o := .cells #[.int .i8 t160, .slice Ao122 t161.length co122, .slice Ao123 t164.length co123] 30 (0, 0)) (by (with_reducible repeat (first | refine blk_drewN ?_ _ | refine blk_drew ?_ | refine blk_alloc ?_ _)); refine blk_put (cs := #[.int .i8 t160, .slice Ao122 t161.length co122, .slice none 0 0]) ?_ 2 _ rfl; (with_reducible repeat (first | refine blk_drewN ?_ _ | refine blk_drew ?_ | refine blk_alloc ?_ _)); refine blk_put (cs := #[.int .i8 t160, .slice none 0 0, .slice none 0 0]) ?_ 1 _ rfl; (with_reducible repeat (first | refine blk_drewN ?_ _ | refine blk_drew ?_ | refine blk_alloc ?_ _)); refine blk_put (cs := #[.int .i8 0, .slice none 0 0, .slice none 0 0]) ?_ 0 _ rfl; (with_reducible repeat (first | refine blk_drewN ?_ _ | refine blk_drew ?_ | refine blk_alloc ?_ _)); exact BK168.out) hb); have n15_ := Aside0.mk (below_step (by repeat (first | (with_reducible first | exact HB.out | apply below_alloc | apply pw_below_drewN | apply below_drew1 | refine below_set ?_ GE101.out | refine below_set ?_ GE118.out | refine below_set ?_ GE126.out | refine below_set ?_ GE135.out | refine below_set ?_ GE168.out) | exact HB.out)) hb); clear HO_119001; clear HO_119002; clear HO_127001; clear HO_127002; clear HO_136001; clear HO_136002; clear HO156; clear HO159; clear HO163; clear HO166; clear BK101; clear BK118; clear BK126; clear BK135; clear BK168; clear HB; have HO_119001 := n0_; have HO_119002 := n1_; have HO_127001 := n2_; have HO_127002 := n3_; have HO_136001 := n4_; have HO_136002 := n5_; have HO156 := n6_; have HO159 := n7_; have HO163 := n8_; have HO166 := n9_; have BK101 := n10_; have BK118 := n11_; have BK126 := n12_; have BK135 := n13_; have BK168 := n14_; have HB := n15_; clear n0_ n1_ n2_ n3_ n4_ n5_ n6_ n7_ n8_ n9_ n10_ n11_ n12_ n13_ n14_ n15_; (try clear hb); (try clear hb2); (try clear hk); (try clear hi)))
                          go_meet
                          case rel => exact ⟨_, (true), (by first | rfl | (simp; done) | (simp [*]; done)), H', ⟨by have := HJ10.out; have := HJ63.out; first | omega | exact Nat.le_refl _⟩, ⟨by (try simp only [hl127001_63]); (try simp only [hl127002_63]); (with_reducible repeat (first | apply Kd.R_alloc | apply Kd.R_drewN | apply Kd.R_drew)); exact Kd.R_mono HO_119001.out (fun _ hk => ⟨hk.1.1.1, ⟨hk.1.1.2, hk.2⟩⟩)⟩, ⟨by (try simp only [hl127001_63]); (try simp only [hl127002_63]); (with_reducible repeat (first | apply Kd.R_alloc | apply Kd.R_drewN | apply Kd.R_drew)); exact Kd.R_mono HO_119002.out (fun _ hk => ⟨hk.1.1.1, ⟨hk.1.1.2, hk.2⟩⟩)⟩, ⟨by (try simp only [hl127001_63]); (try simp only [hl127002_63]); (with_reducible repeat (first | apply Kd.R_alloc | apply Kd.R_drewN | apply Kd.R_drew)); exact Kd.R_mono HO_127001.out (fun _ hk => ⟨hk.1.1.1, ⟨hk.1.1.2, hk.2⟩⟩)⟩, ⟨by (try simp only [hl127001_63]); (try simp only [hl127002_63]); (with_reducible repeat (first | apply Kd.R_alloc | apply Kd.R_drewN | apply Kd.R_drew)); exact Kd.R_mono HO_127002.out (fun _ hk => ⟨hk.1.1.1, ⟨hk.1.1.2, hk.2⟩⟩)⟩, ⟨by (try simp only [hl127001_63]); (try simp only [hl127002_63]); (with_reducible repeat (first | apply Kd.R_alloc | apply Kd.R_drewN | apply Kd.R_drew)); exact Kd.R_mono HO_136001.out (fun _ hk => ⟨hk.1.1.1, ⟨hk.1.1.2, hk.2⟩⟩)⟩, ⟨by (try simp only [hl127001_63]); (try simp only [hl127002_63]); (with_reducible repeat (first | apply Kd.R_alloc | apply Kd.R_drewN | apply Kd.R_drew)); exact Kd.R_mono HO_136002.out (fun _ hk => ⟨hk.1.1.1, ⟨hk.1.1.2, hk.2⟩⟩)⟩, ⟨by (try simp only [hl127001_63]); (try simp only [hl127002_63]); (with_reducible repeat (first | apply Kd.R_alloc | apply Kd.R_drewN | apply Kd.R_drew)); exact Kd.R_mono HO163.out (fun _ hk => ⟨hk.1.1.1.2, ⟨hk.1.1.2, hk.1.2⟩⟩)⟩, ⟨by (try simp only [hl127001_63]); (try simp only [hl127002_63]); (with_reducible repeat (first | apply Kd.R_alloc | apply Kd.R_drewN | apply Kd.R_drew)); exact Kd.R_mono HO166.out (fun _ hk => ⟨hk.1.1.1.2, ⟨hk.1.1.2, hk.1.2⟩⟩)⟩, ⟨by (try simp only [hl127001_63]); (try simp only [hl127002_63]); (with_reducible repeat (first | refine blk_drewN ?_ _ | refine blk_drew ?_ | refine blk_alloc ?_ _)); exact BK101.out⟩, ⟨by (try simp only [hl127001_63]); (try simp only [hl127002_63]); (with_reducible repeat (first | refine blk_drewN ?_ _ | refine blk_drew ?_ | refine blk_alloc ?_ _)); exact BK118.out⟩, ⟨by (try simp only [hl127001_63]); (try simp only [hl127002_63]); (with_reducible repeat (first | refine blk_drewN ?_ _ | refine blk_drew ?_ | refine blk_alloc ?_ _)); exact BK126.out⟩, ⟨by (try simp only [hl127001_63]); (try simp only [hl127002_63]); (with_reducible repeat (first | refine blk_drewN ?_ _ | refine blk_drew ?_ | refine blk_alloc ?_ _)); exact BK135.out⟩, ⟨by (try simp only [hl127001_63]); (try simp only [hl127002_63]); (with_reducible repeat (first | refine blk_drewN ?_ _ | refine blk_drew ?_ | refine blk_alloc ?_ _)); exact BK168.out⟩, ⟨by repeat (first | (with_reducible first | exact HB.out | apply below_alloc | apply pw_below_drewN | apply below_drew1 | refine below_set ?_ GE101.out | refine below_set ?_ GE118.out | refine below_set ?_ GE126.out | refine below_set ?_ GE135.out | refine below_set ?_ GE168.out) | exact HB.out)⟩⟩
                      case rest =>
                        clear HC101
                        try clear c1
                        try clear c2
                        try clear p2
                        try clear c3
                        try clear c3b0
                        try clear c4
                        try clear c5
                        try clear c6
                        try clear c7
                        try clear c8
                        try clear c9
                        try clear c10
                        try clear c11
                        try clear c12
                        try clear c13
                        try clear c14
                        try clear c15
                        try clear c16
                        try clear c17
                        try clear c21
                        try clear c28
                        try clear c29
                        try clear c35
                        try clear c36
                        try clear c37
                        try clear c42
                        try clear c43
                        try clear c44
                        try clear c45
                        try clear c47
                        try clear c48
                        try clear c51
                        try clear c52
                        try clear c53
                        try clear c55
                        try clear c56
                        try clear c59
                        try clear c62
                        try clear c70
                        try clear c71
                        try clear c72
                        try clear c75
                        try clear c75b0
                        try clear c77
                        try clear c78
                        try clear c79
                        try clear c80
                        try clear c82
                        try clear c83
                        try clear c86
                        try clear c87
                        try clear c88
                        try clear c90
                        try clear c91
                        try clear c94
                        try clear c97
                        try clear c97b0
                        try clear c98
                        try clear c98b0
                        try clear c98b1
                        try clear c102
                        try clear c103
                        try clear c104
                        try clear c109
                        try clear c110
                        try clear c117
                        try clear c118
                        try clear c119
                        try clear c120
                        try clear c125
                        try clear c126
                        try clear c127
                        try clear c128
                        try clear c129
                        try clear c131
                        try clear c132
                        try clear c133
                        try clear c136
                        try clear c137
                        try clear c138
                        try clear c139
                        try clear c141
                        try clear c142
                        try clear c143
                        try clear hcz105_0
                        try clear hcz105_1
                        try clear hcz105_2
                        try clear hcz107_0
                        try clear hcz107_1
                        try clear hcz107_2
                        try clear hcz111_0
                        try clear hcz111_1
                        try clear hcz111_2
                        try clear hcz121_0
                        try clear hcz121_1
                        try clear hcz121_2
                        try clear hcz130_0
                        try clear hcz130_1
                        try clear hcz130_2
                        try clear hcz134_0
                        try clear hcz134_1
                        try clear hcz134_2
                        try clear hcz13_0
                        try clear hcz13_1
                        try clear hcz13_2
                        try clear hcz140_0
                        try clear hcz140_1
                        try clear hcz140_2
                        try clear hcz144_0
                        try clear hcz144_1
                        try clear hcz144_2
                        try clear hcz15_0
                        try clear hcz15_1
                        try clear hcz15_2
                        try clear hcz22_0
                        try clear hcz22_1
                        try clear hcz22_2
                        try clear hcz25_0
                        try clear hcz25_1
                        try clear hcz25_2
                        try clear hcz30_0
                        try clear hcz30_1
                        try clear hcz30_2
                        try clear hcz38_0
                        try clear hcz38_1
                        try clear hcz38_2
                        try clear hcz46_0
                        try clear hcz46_1
                        try clear hcz46_2
                        try clear hcz49_0
                        try clear hcz49_1
                        try clear hcz49_2
                        try clear hcz54_0
                        try clear hcz54_1
                        try clear hcz54_2
                        try clear hcz57_0
                        try clear hcz57_1
                        try clear hcz57_2
                        try clear hcz5_0
                        try clear hcz5_1
                        try clear hcz5_2
                        try clear hcz73_0
                        try clear hcz73_1
                        try clear hcz73_2
                        try clear hcz81_0
                        try clear hcz81_1
                        try clear hcz81_2
                        try clear hcz84_0
                        try clear hcz84_1
                        try clear hcz84_2
                        try clear hcz89_0
                        try clear hcz89_1
                        try clear hcz89_2
                        try clear hcz92_0
                        try clear hcz92_1
                        try clear hcz92_2
                        try clear hfz105_0
                        try clear hfz105_1
                        try clear hfz105_2
                        try clear hfz107_0
                        try clear hfz107_1
                        try clear hfz107_2
                        try clear hfz111_0
                        try clear hfz111_1
                        try clear hfz111_2
                        try clear hfz121_0
                        try clear hfz121_1
                        try clear hfz121_2
                        try clear hfz130_0
                        try clear hfz130_1
                        try clear hfz130_2
                        try clear hfz134_0
                        try clear hfz134_1
                        try clear hfz134_2
                        try clear hfz13_0
                        try clear hfz13_1
                        try clear hfz13_2
                        try clear hfz140_0
                        try clear hfz140_1
                        try clear hfz140_2
                        try clear hfz144_0
                        try clear hfz144_1
                        try clear hfz144_2
                        try clear hfz15_0
                        try clear hfz15_1
                        try clear hfz15_2
                        try clear hfz22_0
                        try clear hfz22_1
                        try clear hfz22_2
                        try clear hfz25_0
                        try clear hfz25_1
                        try clear hfz25_2
                        try clear hfz30_0
                        try clear hfz30_1
                        try clear hfz30_2
                        try clear hfz38_0
                        try clear hfz38_1
                        try clear hfz38_2
                        try clear hfz46_0
                        try clear hfz46_1
                        try clear hfz46_2
                        try clear hfz49_0
                        try clear hfz49_1
                        try clear hfz49_2
                        try clear hfz54_0
                        try clear hfz54_1
                        try clear hfz54_2
                        try clear hfz57_0
                        try clear hfz57_1
                        try clear hfz57_2
                        try clear hfz5_0
                        try clear hfz5_1
                        try clear hfz5_2
                        try clear hfz73_0
                        try clear hfz73_1
                        try clear hfz73_2
                        try clear hfz81_0
                        try clear hfz81_1
                        try clear hfz81_2
                        try clear hfz84_0
                        try clear hfz84_1
                        try clear hfz84_2
                        try clear hfz89_0
                        try clear hfz89_1
                        try clear hfz89_2
                        try clear hfz92_0
                        try clear hfz92_1
                        try clear hfz92_2
                        try clear p2
                        obtain ⟨kq, x87_100, rfl, HA, HJ100, HO_119001, HO_119002, HO_127001, HO_127002, HO_136001, HO_136002, HO_169001, HO_169002, BK101, BK118, BK126, BK135, BK168, HB⟩ := hcut
                        have hl136001_100 := (Kd.R_reads' HO_136001.out).1
                        rw [hl136001_100] at HO_136001
                        (try simp only [hl136001_100])
                        (try simp only [hl136001_100] at BK101)
                        (try simp only [hl136001_100] at BK118)
                        (try simp only [hl136001_100] at BK126)
                        (try simp only [hl136001_100] at BK135)
                        (try simp only [hl136001_100] at BK168)
                        (try simp only [hl136001_100] at HO_119001)
                        (try simp only [hl136001_100] at HO_119002)
                        (try simp only [hl136001_100] at HO_127001)
                        (try simp only [hl136001_100] at HO_127002)
                        (try simp only [hl136001_100] at HO_136002)
                        (try simp only [hl136001_100] at HO_169001)
                        (try simp only [hl136001_100] at HO_169002)
                        have hl136002_100 := (Kd.R_reads' HO_136002.out).1
                        rw [hl136002_100] at HO_136002
                        (try simp only [hl136002_100])
                        (try simp only [hl136002_100] at BK101)
                        (try simp only [hl136002_100] at BK118)
                        (try simp only [hl136002_100] at BK126)
                        (try simp only [hl136002_100] at BK135)
                        (try simp only [hl136002_100] at BK168)
                        (try simp only [hl136002_100] at HO_119001)
                        (try simp only [hl136002_100] at HO_119002)
                        (try simp only [hl136002_100] at HO_127001)
                        (try simp only [hl136002_100] at HO_127002)
                        (try simp only [hl136002_100] at HO_136001)
                        (try simp only [hl136002_100] at HO_169001)
                        (try simp only [hl136002_100] at HO_169002)
                        cases kq with
                        | zero => exact absurd HA.out (by simp [laws_FnExactMergeCircuit.j2])
                        | succ kj100 =>
                          have H := HA.out
                          clear HA
                          simp only [laws_FnExactMergeCircuit.j2] at H
                          by_cases c146 : x87_100 = true
                          · subst c146
                            have H1 : (none) = some r := by rw [if_pos rfl] at H; exact H
                            clear H
                            have H := H1
                            clear H1
                            exact absurd H (by simp)
                          · replace c146 := Bool.eq_false_iff.mpr c146
                            subst c146
                            have H1 : ((laws_heldCircuit.f kj100 t127 t150 t151 1).bind fun t170 => (if t170 < 0 then (none) else (if t170 = t149 then (some true) else (none)))) = some r := by rw [if_neg (show ¬ (false = true) by decide)] at H; exact H
                            clear H
                            have H := H1
                            clear H1
                            replace H := Option.bind_eq_some_iff.mp H
                            obtain ⟨t170, A1470, H⟩ := H
                            replace H : (if t170 < 0 then (none) else (if t170 = t149 then (some true) else (none))) = some r := H
                            have A147 := Aside0.mk A1470
                            clear A1470
                            by_cases c148 : t170 < 0
                            · rw [if_pos c148] at H
                              exact absurd H (by simp)
                            · rw [if_neg c148] at H
                              have c148b0 : decide (t170 < 0) = false := decide_eq_false c148
                              clear c148
                              by_cases c149 : t170 = t149
                              · rw [if_pos c149] at H
                                have c149b0 : (t170 == t149) = true := beq_iff_eq.mpr c149
                                have c149b1 : (t170 != t149) = false := bne_eq_false_iff_eq.mpr c149
                                clear c149
                                obtain rfl := Option.some.inj H
                                have hnb150 := NB135_101.out
                                have hnc150 := NB101_135.out
                                have hnb151 := NB135_118.out
                                have hnc151 := NB118_135.out
                                have hnb152 := NB135_126.out
                                have hnc152 := NB126_135.out
                                have hnb153 := NB135_168.out
                                have hnc153 := NB168_135.out
                                have hcz154_0 : wc.cell? ⟨gb135, 0, none⟩ = some (.int .i8 t127) := (blk_cell BK135.out 0).trans rfl
                                have hcz154_1 : wc.cell? ⟨gb135, 1, none⟩ = some (.slice Ao39 t150.length co39) := (blk_cell BK135.out 1).trans rfl
                                have hcz154_2 : wc.cell? ⟨gb135, 2, none⟩ = some (.slice Ao40 t151.length co40) := (blk_cell BK135.out 2).trans rfl
                                have hfz154_0 := blk_frozen BK135.out 0
                                have hfz154_1 := blk_frozen BK135.out 1
                                have hfz154_2 := blk_frozen BK135.out 2
                                go_wp2_with (first | ((with_reducible refine gate_callee (f := 15) rfl ?_); refine goesL_ (some 90) rfl rfl Try.func15 (by kernel_rfl) rfl #[.agg #[.int .i8 t127, .slice Ao39 t150.length co39, .slice Ao40 t151.length co40], .int .i64 1] rfl (by (try simp only [List.map_toArray, List.map_cons, List.map_nil]); first | done | rfl | (simp only [List.length_drop, List.length_take]; rfl)) ?_; (with_reducible refine (laws_heldCircuit.calls kj100 t127 _ _ t150 _ _ t151 1 t170 _ ?side1 ?side2 ?side3 ?side4 A147.out).mono ?_); (case side1 => repeat (first | exact (Kd.R_reads' HO_136001.out).2.2 | (with_reducible refine Kd.C_alloc ?_ _) | (with_reducible refine Kd.C_drewN ?_ _) | (with_reducible refine Kd.C_drew ?_))); (case side2 => exact (Kd.R_reads' HO_136001.out).2.1); (case side3 => repeat (first | exact (Kd.R_reads' HO_136002.out).2.2 | (with_reducible refine Kd.C_alloc ?_ _) | (with_reducible refine Kd.C_drewN ?_ _) | (with_reducible refine Kd.C_drew ?_))); (case side4 => exact (Kd.R_reads' HO_136002.out).2.1); rintro e w155 ⟨rfl, hb⟩; refine ⟨_, rfl, ?_⟩; have n0_ := Aside0.mk (Kd.R_below (by (with_reducible repeat (first | apply Kd.R_alloc | apply Kd.R_drewN | apply Kd.R_drew)); exact HO_119001.out) hb); have n1_ := Aside0.mk (Kd.R_below (by (with_reducible repeat (first | apply Kd.R_alloc | apply Kd.R_drewN | apply Kd.R_drew)); exact HO_119002.out) hb); have n2_ := Aside0.mk (Kd.R_below (by (with_reducible repeat (first | apply Kd.R_alloc | apply Kd.R_drewN | apply Kd.R_drew)); exact HO_127001.out) hb); have n3_ := Aside0.mk (Kd.R_below (by (with_reducible repeat (first | apply Kd.R_alloc | apply Kd.R_drewN | apply Kd.R_drew)); exact HO_127002.out) hb); have n4_ := Aside0.mk (Kd.R_below (by (with_reducible repeat (first | apply Kd.R_alloc | apply Kd.R_drewN | apply Kd.R_drew)); exact HO_136001.out) hb); have n5_ := Aside0.mk (Kd.R_below (by (with_reducible repeat (first | apply Kd.R_alloc | apply Kd.R_drewN | apply Kd.R_drew)); exact HO_136002.out) hb); have n6_ := Aside0.mk (Kd.R_below (by (with_reducible repeat (first | apply Kd.R_alloc | apply Kd.R_drewN | apply Kd.R_drew)); exact HO_169001.out) hb); have n7_ := Aside0.mk (Kd.R_below (by (with_reducible repeat (first | apply Kd.R_alloc | apply Kd.R_drewN | apply Kd.R_drew)); exact HO_169002.out) hb); have n8_ := Aside0.mk (blk_below (g := gb101) (o := .cells #[.int .i8 a0_0, .slice A0_1 l0_1.length c0_1, .slice A0_2 l0_2.length c0_2] 26 (0, 0)) (by (with_reducible repeat (first | refine blk_drewN ?_ _ | refine blk_drew ?_ | refine blk_alloc ?_ _)); exact BK101.out) hb); have n9_ := Aside0.mk (blk_below (g := gb118) (o := .cells #[.int .i8 t110, .slice Ao23 t111.length co23, .slice Ao24 t114.length co24] 30 (0, 0)) (by (with_reducible repeat (first | refine blk_drewN ?_ _ | refine blk_drew ?_ | refine blk_alloc ?_ _)); exact BK118.out) hb); have n10_ := Aside0.mk (blk_below (g := gb126) (o := .cells #[.int .i8 t119, .slice Ao31 t146.length co31, .slice Ao32 t147.length co32] 30 (0, 0)) (by (with_reducible repeat (first | refine blk_drewN ?_ _ | refine blk_drew ?_ | refine blk_alloc ?_ _)); exact BK126.out) hb); have n11_ := Aside0.mk (blk_below (g := gb135) (o := .cells #[.int .i8 t127, .slice Ao39 t150.length co39, .slice Ao40 t151.length co40] 30 (0, 0)) (by (with_reducible repeat (first | refine blk_drewN ?_ _ | refine blk_drew ?_ | refine blk_alloc ?_ _)); exact BK135.out) hb); have n12_ := Aside0.mk (blk_below (g := gb168) (o := .cells #[.int .i8 t160, .slice Ao122 t161.length co122, .slice Ao123 t164.length co123] 30 (0, 0)) (by (with_reducible repeat (first | refine blk_drewN ?_ _ | refine blk_drew ?_ | refine blk_alloc ?_ _)); exact BK168.out) hb); have n13_ := Aside0.mk (below_step (by repeat (first | (with_reducible first | exact HB.out | apply below_alloc | apply pw_below_drewN | apply below_drew1 | refine below_set ?_ GE101.out | refine below_set ?_ GE118.out | refine below_set ?_ GE126.out | refine below_set ?_ GE135.out | refine below_set ?_ GE168.out) | exact HB.out)) hb); clear HO_119001; clear HO_119002; clear HO_127001; clear HO_127002; clear HO_136001; clear HO_136002; clear HO_169001; clear HO_169002; clear BK101; clear BK118; clear BK126; clear BK135; clear BK168; clear HB; have HO_119001 := n0_; have HO_119002 := n1_; have HO_127001 := n2_; have HO_127002 := n3_; have HO_136001 := n4_; have HO_136002 := n5_; have HO_169001 := n6_; have HO_169002 := n7_; have BK101 := n8_; have BK118 := n9_; have BK126 := n10_; have BK135 := n11_; have BK168 := n12_; have HB := n13_; clear n0_ n1_ n2_ n3_ n4_ n5_ n6_ n7_ n8_ n9_ n10_ n11_ n12_ n13_; (try clear hb); (try clear hb2); (try clear hk); (try clear hi)))
                                go_ret
                                exact ⟨by first | rfl | (simp [errW_none, errW_some] <;> rfl) | (simp [*, errW_none, errW_some] <;> rfl), by repeat (first | (with_reducible first | exact HB.out | apply below_alloc | apply pw_below_drewN | apply below_drew1 | refine below_set ?_ GE101.out | refine below_set ?_ GE118.out | refine below_set ?_ GE126.out | refine below_set ?_ GE135.out | refine below_set ?_ GE168.out) | exact HB.out)⟩
                              · rw [if_neg c149] at H
                                exact absurd H (by simp)
                    · rw [if_neg c98] at H
                      exact absurd H (by simp)
          · replace c62 := Bool.eq_false_iff.mpr c62
            subst c62
            have H1 : (none) = some r := by rw [if_neg (show ¬ (false = true) by decide)] at H; exact H
            clear H
            have H := H1
            clear H1
            exact absurd H (by simp)
def laws_FnExactMergeCircuit.Pure : Prop := ∀ (a0_0 : Int) (l0_1 : List (S114)) (l0_2 : List Int), (Lit.int .i8 a0_0).wf = true → l0_1.length ≤ maxLen → (∀ x ∈ l0_1, (Lit.int .i8 x.f0).wf = true ∧ (Lit.int .i16 x.f1).wf = true ∧ (Lit.int .i16 x.f2).wf = true) → l0_2.length ≤ maxLen → (∀ x ∈ l0_2, (Lit.int .i16 x).wf = true) → ∃ k, laws_FnExactMergeCircuit.f k a0_0 l0_1 l0_2 = some true
end Go.Proofs.Yteanndgkjoinmaa.X

namespace Go.Proofs.Yteanndgkjoinmaa.X
open Go.RowKit Go.Proofs.YteanndgkjoinmaaW.PrintWords Go.Proofs.YteanndgkjoinmaaW.PrintLast
theorem w64_in {x : Int} (h : -9223372036854775808 ≤ x) (h2 : x ≤ 9223372036854775807) : wrap64 x = x := by unfold wrap64; omega
theorem ev_pos {α : Type} {c : Prop} [Decidable c] {g f : Nat → Option α} {r : α} (h : c) (e : Ev g r) : Ev (fun k => if c then g k else f k) r := Ev.congr (fun _ => if_pos h) e
theorem ev_neg {α : Type} {c : Prop} [Decidable c] {g f : Nat → Option α} {r : α} (h : ¬ c) (e : Ev f r) : Ev (fun k => if c then g k else f k) r := Ev.congr (fun _ => if_neg h) e
theorem ev_some {α β : Type} {g : Option α} {f : Nat → α → Option β} {a : α} {r : β} (h : g = some a) (e : Ev (fun n => f n a) r) : Ev (fun n => g.bind (f n)) r := Ev.bind (g := fun _ => g) ⟨0, fun _ _ => h⟩ e
theorem take_succ_set {α : Type} (xs : List α) (i : Nat) (v : α) (h : i < xs.length) : (xs.set i v).take (i + 1) = xs.take i ++ [v] := by
  rw [List.take_succ_eq_append_getElem (by simpa using h)]
  simp [List.take_set_of_le]
theorem take_succ_map {α β : Type} (f : α → β) (xs : List α) (i : Nat) (d : α) (h : i < xs.length) : (xs.map f).take (i + 1) = (xs.map f).take i ++ [f (xs.getD i d)] := by
  rw [List.take_succ_eq_append_getElem (by simpa using h)]
  simp [List.getD_eq_getElem?_getD, List.getElem?_eq_getElem h]
def cvG (x : S114) : S68 := ⟨x.f0, x.f1, x.f2⟩
theorem toGateS_l0 (xs : List S114) (hn : xs.length ≤ 1048576) : ∀ (d i : Nat) (ys : List S68), xs.length - i = d → i ≤ xs.length → ys.length = xs.length → ys.take i = (xs.map cvG).take i → Ev (fun k => laws_toGateS.l0 k xs ys (i : Int)) (xs.map cvG) := by
  intro d
  induction d with
  | zero =>
    intro i ys hd hi hl ht
    have e : i = xs.length := by omega
    subst e
    have : ys = xs.map cvG := by
      rw [List.take_of_length_le (by omega), List.take_of_length_le (by simp)] at ht
      exact ht
    subst this
    exact Ev.step (f := fun _ => some (xs.map cvG)) (fun k => by simp only [laws_toGateS.l0]; rw [if_neg (by omega)]) (Ev.now _)
  | succ d ih =>
    intro i ys hd hi hl ht
    have hlt : i < xs.length := by omega
    refine Ev.step (f := fun k => laws_toGateS.l0 k xs (ys.set i (cvG (xs.getD i z114))) ((i + 1 : Nat) : Int)) (fun k => ?_) (ih (i + 1) _ (by omega) (by omega) (by simp [hl]) ?_)
    · simp only [laws_toGateS.l0]
      rw [if_pos (by omega), if_pos (by omega)]
      simp only [laws_toGate.f, Option.bind_some]
      rw [if_pos (by omega), w64_in (by omega) (by omega)]
      simp [rd_T114, cvG]
    · rw [take_succ_set _ _ _ (by omega), take_succ_map _ _ _ z114 hlt, ht]
theorem toGateS_ev (xs : List S114) (hn : xs.length ≤ 1048576) : Ev (fun k => laws_toGateS.f k xs) (xs.map cvG) := by
  unfold laws_toGateS.f
  refine ev_pos (by omega) (ev_pos (by omega) ?_)
  have := toGateS_l0 xs hn xs.length 0 (List.replicate xs.length z68) (by omega) (by omega) (by simp) (by simp)
  simpa using this
theorem toInt16S_l0 (xs : List Int) (hn : xs.length ≤ 1048576) : ∀ (d i : Nat) (ys : List Int), xs.length - i = d → i ≤ xs.length → ys.length = xs.length → ys.take i = xs.take i → Ev (fun k => laws_toInt16S.l0 k xs ys (i : Int)) xs := by
  intro d
  induction d with
  | zero =>
    intro i ys hd hi hl ht
    have e : i = xs.length := by omega
    subst e
    have : ys = xs := by
      rw [List.take_of_length_le (by omega), List.take_of_length_le (by simp)] at ht
      exact ht
    subst this
    exact Ev.step (f := fun _ => some ys) (fun k => by simp only [laws_toInt16S.l0]; rw [if_neg (by omega)]) (Ev.now _)
  | succ d ih =>
    intro i ys hd hi hl ht
    have hlt : i < xs.length := by omega
    refine Ev.step (f := fun k => laws_toInt16S.l0 k xs (ys.set i (xs.getD i 0)) ((i + 1 : Nat) : Int)) (fun k => ?_) (ih (i + 1) _ (by omega) (by omega) (by simp [hl]) ?_)
    · simp only [laws_toInt16S.l0]
      rw [if_pos (by omega), if_pos (by omega), if_pos (by omega), w64_in (by omega) (by omega)]
      simp [rd]
    · rw [take_succ_set _ _ _ (by omega), ht, List.take_succ_eq_append_getElem hlt]
      simp [List.getD_eq_getElem?_getD, List.getElem?_eq_getElem hlt]
theorem toInt16S_ev (xs : List Int) (hn : xs.length ≤ 1048576) : Ev (fun k => laws_toInt16S.f k xs) xs := by
  unfold laws_toInt16S.f
  refine ev_pos (by omega) (ev_pos (by omega) ?_)
  have := toInt16S_l0 xs hn xs.length 0 (List.replicate xs.length 0) (by omega) (by omega) (by simp) (by simp)
  simpa using this
theorem toCircuit_ev (n : Int) (gs : List S114) (os : List Int) (hg : gs.length ≤ 1048576) (ho : os.length ≤ 1048576) : Ev (fun k => laws_toCircuit.f k n gs os) (n, gs.map cvG, os) := by
  unfold laws_toCircuit.f
  exact Ev.bind (toGateS_ev gs hg) (Ev.bind (toInt16S_ev os ho) (Ev.now _))
theorem eqGateS_l0 (xs : List S68) (hn : xs.length ≤ 1048576) : ∀ (d i : Nat), xs.length - i = d → i ≤ xs.length → Ev (fun k => laws_eqGateS.l0 k xs xs (i : Int)) true := by
  intro d
  induction d with
  | zero =>
    intro i hd hi
    exact Ev.step (f := fun _ => some true) (fun k => by simp only [laws_eqGateS.l0]; rw [if_neg (by omega)]) (Ev.now _)
  | succ d ih =>
    intro i hd hi
    refine Ev.step (f := fun k => laws_eqGateS.l0 k xs xs ((i + 1 : Nat) : Int)) (fun k => ?_) (ih (i + 1) (by omega) (by omega))
    simp only [laws_eqGateS.l0]
    rw [if_pos (by omega), if_pos (by omega), if_pos (by omega)]
    simp only [laws_eqGate.f, if_true, Option.bind_some]
    rw [w64_in (by omega) (by omega)]
    rfl
theorem eqGateS_ev (xs : List S68) (hn : xs.length ≤ 1048576) : Ev (fun k => laws_eqGateS.f k xs xs) true := by
  unfold laws_eqGateS.f
  exact ev_pos rfl (eqGateS_l0 xs hn _ 0 rfl (by omega))
theorem eqInt16S_l0 (xs : List Int) (hn : xs.length ≤ 1048576) : ∀ (d i : Nat), xs.length - i = d → i ≤ xs.length → Ev (fun k => laws_eqInt16S.l0 k xs xs (i : Int)) true := by
  intro d
  induction d with
  | zero =>
    intro i hd hi
    exact Ev.step (f := fun _ => some true) (fun k => by simp only [laws_eqInt16S.l0]; rw [if_neg (by omega)]) (Ev.now _)
  | succ d ih =>
    intro i hd hi
    refine Ev.step (f := fun k => laws_eqInt16S.l0 k xs xs ((i + 1 : Nat) : Int)) (fun k => ?_) (ih (i + 1) (by omega) (by omega))
    simp only [laws_eqInt16S.l0]
    rw [if_pos (by omega), if_pos (by omega), if_pos (by omega)]
    simp only [if_true]
    rw [w64_in (by omega) (by omega)]
    rfl
theorem eqInt16S_ev (xs : List Int) (hn : xs.length ≤ 1048576) : Ev (fun k => laws_eqInt16S.f k xs xs) true := by
  unfold laws_eqInt16S.f
  exact ev_pos rfl (eqInt16S_l0 xs hn _ 0 rfl (by omega))
theorem eqCircuit_ev (n : Int) (gs : List S68) (os : List Int) (hg : gs.length ≤ 1048576) (ho : os.length ≤ 1048576) : Ev (fun k => laws_eqCircuit.f k n gs os n gs os) true := by
  unfold laws_eqCircuit.f
  exact ev_pos rfl (Ev.bind (eqGateS_ev gs hg) (ev_pos rfl (Ev.bind (eqInt16S_ev os ho) (ev_pos rfl (Ev.now _)))))
def mkG (c : Int) (n : Nat) : List S68 := (List.range n).map fun (i : Nat) => ⟨IntKind.i8.wrap (c + 3 * (i : Int)), IntKind.i16.wrap (c + 3 * (i : Int) + 1), IntKind.i16.wrap (c + 3 * (i : Int) + 2)⟩
def mkI (c : Int) (n : Nat) : List Int := (List.range n).map fun (i : Nat) => IntKind.i16.wrap (c + (i : Int))
theorem mkG_length (c : Int) (n : Nat) : (mkG c n).length = n := by simp [mkG]
theorem mkI_length (c : Int) (n : Nat) : (mkI c n).length = n := by simp [mkI]
theorem mkG_succ (c : Int) (n : Nat) : mkG c (n + 1) = mkG c n ++ [⟨IntKind.i8.wrap (c + 3 * (n : Int)), IntKind.i16.wrap (c + 3 * (n : Int) + 1), IntKind.i16.wrap (c + 3 * (n : Int) + 2)⟩] := by simp [mkG, List.range_succ]
theorem mkI_succ (c : Int) (n : Nat) : mkI c (n + 1) = mkI c n ++ [IntKind.i16.wrap (c + (n : Int))] := by simp [mkI, List.range_succ]
theorem mkG_get (c : Int) (n i : Nat) (h : i < n) : rd_T68 (mkG c n) (i : Int) = ⟨IntKind.i8.wrap (c + 3 * (i : Int)), IntKind.i16.wrap (c + 3 * (i : Int) + 1), IntKind.i16.wrap (c + 3 * (i : Int) + 2)⟩ := by
  simp [rd_T68, mkG, List.getD_eq_getElem?_getD, h]
theorem mkI_get (c : Int) (n i : Nat) (h : i < n) : rd (mkI c n) (i : Int) = IntKind.i16.wrap (c + (i : Int)) := by
  simp [rd, mkI, List.getD_eq_getElem?_getD, h]
theorem set3 (xs : List S68) (i : Nat) (h : i < xs.length) (a b c : Int) :
    ((xs.set i ⟨a, (rd_T68 xs i).f1, (rd_T68 xs i).f2⟩).set i ⟨(rd_T68 (xs.set i ⟨a, (rd_T68 xs i).f1, (rd_T68 xs i).f2⟩) i).f0, b, (rd_T68 (xs.set i ⟨a, (rd_T68 xs i).f1, (rd_T68 xs i).f2⟩) i).f2⟩).set i
      ⟨(rd_T68 ((xs.set i ⟨a, (rd_T68 xs i).f1, (rd_T68 xs i).f2⟩).set i ⟨(rd_T68 (xs.set i ⟨a, (rd_T68 xs i).f1, (rd_T68 xs i).f2⟩) i).f0, b, (rd_T68 (xs.set i ⟨a, (rd_T68 xs i).f1, (rd_T68 xs i).f2⟩) i).f2⟩) i).f0, (rd_T68 ((xs.set i ⟨a, (rd_T68 xs i).f1, (rd_T68 xs i).f2⟩).set i ⟨(rd_T68 (xs.set i ⟨a, (rd_T68 xs i).f1, (rd_T68 xs i).f2⟩) i).f0, b, (rd_T68 (xs.set i ⟨a, (rd_T68 xs i).f1, (rd_T68 xs i).f2⟩) i).f2⟩) i).f1, c⟩ = xs.set i ⟨a, b, c⟩ := by
  simp [rd_T68, List.getD_eq_getElem?_getD, h]
theorem markGateS_l0 (c : Int) (hc : 0 ≤ c) (hc2 : c ≤ 10000000) : ∀ (d i : Nat) (xs : List S68), xs.length ≤ 1048576 → xs.length - i = d → i ≤ xs.length → xs.take i = mkG c i → Ev (fun k => laws_markGateS.l0 k xs (c + 3 * (i : Int)) (i : Int)) (c + 3 * (xs.length : Int), mkG c xs.length) := by
  intro d
  induction d with
  | zero =>
    intro i xs hn hd hi ht
    have e : i = xs.length := by omega
    subst e
    rw [List.take_of_length_le (by omega)] at ht
    refine Ev.step (f := fun _ => some (c + 3 * (xs.length : Int), xs)) (fun k => by simp only [laws_markGateS.l0]; rw [if_neg (by omega)]) ?_
    rw [← ht]
    exact Ev.now _
  | succ d ih =>
    intro i xs hn hd hi ht
    have hlt : i < xs.length := by omega
    have := ih (i + 1) (xs.set i ⟨IntKind.i8.wrap (c + 3 * (i : Int)), IntKind.i16.wrap (c + 3 * (i : Int) + 1), IntKind.i16.wrap (c + 3 * (i : Int) + 2)⟩) (by simpa using hn) (by simp; omega) (by simp; omega) (by rw [take_succ_set _ _ _ hlt, ht, mkG_succ])
    rw [List.length_set] at this
    refine Ev.step (fun k => ?_) this
    simp only [laws_markGateS.l0]
    rw [if_pos (by omega), if_pos (by omega)]
    simp only [Option.bind_some, Int.toNat_natCast]
    rw [set3 xs i hlt]
    rw [w64_in (x := c + 3 * (i : Int) + 1) (by omega) (by omega), w64_in (x := c + 3 * (i : Int) + 1 + 1) (by omega) (by omega), w64_in (x := c + 3 * (i : Int) + 1 + 1 + 1) (by omega) (by omega), w64_in (x := (i : Int) + 1) (by omega) (by omega)]
    rw [show c + 3 * (i : Int) + 1 + 1 = c + 3 * (i : Int) + 2 from by omega, show c + 3 * (i : Int) + 2 + 1 = c + 3 * ((i + 1 : Nat) : Int) from by omega]
    rfl
theorem markGateS_ev (xs : List S68) (c : Int) (hc : 0 ≤ c) (hc2 : c ≤ 10000000) (hn : xs.length ≤ 1048576) : Ev (fun k => laws_markGateS.f k xs c) (c + 3 * (xs.length : Int), mkG c xs.length) := by
  have := markGateS_l0 c hc hc2 xs.length 0 xs hn (by omega) (by omega) (by simp [mkG])
  simpa [laws_markGateS.f] using this
theorem markInt16S_l0 (c : Int) (hc : 0 ≤ c) (hc2 : c ≤ 10000000) : ∀ (d i : Nat) (xs : List Int), xs.length ≤ 1048576 → xs.length - i = d → i ≤ xs.length → xs.take i = mkI c i → Ev (fun k => laws_markInt16S.l0 k xs (c + (i : Int)) (i : Int)) (c + (xs.length : Int), mkI c xs.length) := by
  intro d
  induction d with
  | zero =>
    intro i xs hn hd hi ht
    have e : i = xs.length := by omega
    subst e
    rw [List.take_of_length_le (by omega)] at ht
    refine Ev.step (f := fun _ => some (c + (xs.length : Int), xs)) (fun k => by simp only [laws_markInt16S.l0]; rw [if_neg (by omega)]) ?_
    rw [← ht]
    exact Ev.now _
  | succ d ih =>
    intro i xs hn hd hi ht
    have hlt : i < xs.length := by omega
    have := ih (i + 1) (xs.set i (IntKind.i16.wrap (c + (i : Int)))) (by simpa using hn) (by simp; omega) (by simp; omega) (by rw [take_succ_set _ _ _ hlt, ht, mkI_succ])
    rw [List.length_set] at this
    refine Ev.step (fun k => ?_) this
    simp only [laws_markInt16S.l0]
    rw [if_pos (by omega), if_pos (by omega), w64_in (x := c + (i : Int) + 1) (by omega) (by omega), w64_in (x := (i : Int) + 1) (by omega) (by omega)]
    rw [show c + (i : Int) + 1 = c + ((i + 1 : Nat) : Int) from by omega]
    rfl
theorem markInt16S_ev (xs : List Int) (c : Int) (hc : 0 ≤ c) (hc2 : c ≤ 10000000) (hn : xs.length ≤ 1048576) : Ev (fun k => laws_markInt16S.f k xs c) (c + (xs.length : Int), mkI c xs.length) := by
  have := markInt16S_l0 c hc hc2 xs.length 0 xs hn (by omega) (by omega) (by simp [mkI])
  simpa [laws_markInt16S.f] using this
theorem markCircuit_ev (n : Int) (gs : List S68) (os : List Int) (c : Int) (hc : 0 ≤ c) (hc2 : c ≤ 1000) (hg : gs.length ≤ 1048576) (ho : os.length ≤ 1048576) :
    Ev (fun k => laws_markCircuit.f k n gs os c) (c + 3 * (gs.length : Int) + (os.length : Int), mkG c gs.length, mkI (c + 3 * (gs.length : Int)) os.length) := by
  unfold laws_markCircuit.f
  exact Ev.bind (markGateS_ev gs c hc (by omega) hg) (Ev.bind (markInt16S_ev os _ (by omega) (by omega) ho) (Ev.now _))
theorem heldGateS_l0 (c : Int) (hc : 0 ≤ c) (hc2 : c ≤ 10000000) (n : Nat) (hn : n ≤ 1048576) : ∀ (d i : Nat), n - i = d → i ≤ n → Ev (fun k => laws_heldGateS.l0 k (mkG c n) (c + 3 * (i : Int)) (i : Int)) (c + 3 * (n : Int)) := by
  intro d
  induction d with
  | zero =>
    intro i hd hi
    have e : i = n := by omega
    subst e
    exact Ev.step (f := fun _ => some (c + 3 * (i : Int))) (fun k => by simp only [laws_heldGateS.l0]; rw [mkG_length, if_neg (by omega)]) (Ev.now _)
  | succ d ih =>
    intro i hd hi
    refine Ev.step (fun k => ?_) (ih (i + 1) (by omega) (by omega))
    simp only [laws_heldGateS.l0]
    rw [mkG_length, if_pos (by omega), if_pos (by omega), mkG_get c n i (by omega), if_pos rfl]
    rw [w64_in (x := c + 3 * (i : Int) + 1) (by omega) (by omega), if_pos rfl, w64_in (x := c + 3 * (i : Int) + 1 + 1) (by omega) (by omega), if_pos (by rw [show c + 3 * (i : Int) + 1 + 1 = c + 3 * (i : Int) + 2 from by omega]), w64_in (x := c + 3 * (i : Int) + 1 + 1 + 1) (by omega) (by omega), w64_in (x := (i : Int) + 1) (by omega) (by omega)]
    rw [show c + 3 * (i : Int) + 1 + 1 + 1 = c + 3 * ((i + 1 : Nat) : Int) from by omega]
    rfl
theorem heldInt16S_l0 (c : Int) (hc : 0 ≤ c) (hc2 : c ≤ 10000000) (n : Nat) (hn : n ≤ 1048576) : ∀ (d i : Nat), n - i = d → i ≤ n → Ev (fun k => laws_heldInt16S.l0 k (mkI c n) (c + (i : Int)) (i : Int)) (c + (n : Int)) := by
  intro d
  induction d with
  | zero =>
    intro i hd hi
    have e : i = n := by omega
    subst e
    exact Ev.step (f := fun _ => some (c + (i : Int))) (fun k => by simp only [laws_heldInt16S.l0]; rw [mkI_length, if_neg (by omega)]) (Ev.now _)
  | succ d ih =>
    intro i hd hi
    refine Ev.step (fun k => ?_) (ih (i + 1) (by omega) (by omega))
    simp only [laws_heldInt16S.l0]
    rw [mkI_length, if_pos (by omega), if_pos (by omega), mkI_get c n i (by omega), if_pos rfl, w64_in (x := c + (i : Int) + 1) (by omega) (by omega), w64_in (x := (i : Int) + 1) (by omega) (by omega)]
    rw [show c + (i : Int) + 1 = c + ((i + 1 : Nat) : Int) from by omega]
    rfl
theorem heldCircuit_ev (n : Int) (a b : Nat) (c : Int) (hc : 0 ≤ c) (hc2 : c ≤ 1000) (ha : a ≤ 1048576) (hb : b ≤ 1048576) :
    Ev (fun k => laws_heldCircuit.f k n (mkG c a) (mkI (c + 3 * (a : Int)) b) c) (c + 3 * (a : Int) + (b : Int)) := by
  unfold laws_heldCircuit.f laws_heldGateS.f laws_heldInt16S.f
  have h1 := heldGateS_l0 c hc (by omega) a ha a 0 (by omega) (by omega)
  have h2 := heldInt16S_l0 (c + 3 * (a : Int)) (by omega) (by omega) b hb b 0 (by omega) (by omega)
  refine Ev.bind (a := c + 3 * (a : Int)) (by simpa using h1) (ev_neg (by omega) (Ev.bind (a := c + 3 * (a : Int) + (b : Int)) (by simpa using h2) (ev_neg (by omega) (Ev.now _))))
theorem szCircuit_eq (n : Int) (gs : List S114) (os : List Int) (hg : gs.length ≤ maxLen) (ho : os.length ≤ maxLen) : ∃ t, laws_szCircuit.f n gs os 1048576 = some t ∧ (¬ t < 0 → gs.length ≤ 1048576 ∧ os.length ≤ 1048576) := by
  unfold maxLen at hg ho
  simp only [laws_szCircuit.f, laws_szGateS.f, laws_szInt16S.f]
  rw [w64_in (by omega) (by omega)]
  by_cases h1 : (1048576 : Int) - (gs.length : Int) < 0
  · rw [if_pos h1]; exact ⟨-1, rfl, fun h => absurd (by decide) h⟩
  · rw [if_neg h1]
    simp only [Option.bind_some]
    rw [if_neg h1, w64_in (by omega) (by omega)]
    by_cases h2 : (1048576 : Int) - (gs.length : Int) - (os.length : Int) < 0
    · rw [if_pos h2]; exact ⟨-1, rfl, fun h => absurd (by decide) h⟩
    · rw [if_neg h2]
      simp only [Option.bind_some]
      rw [if_neg h2]
      exact ⟨_, rfl, fun _ => ⟨by omega, by omega⟩⟩
def gateOkB (n i k a b : Int) : Bool :=
  if k = 0 then decide (0 ≤ wrap64 a) && decide (wrap64 a ≤ wrap64 (n - 1)) && (wrap64 b == 0)
  else if k = 1 then (wrap64 a == 0) && (wrap64 b == 0)
  else if k = 2 ∨ k = 3 then decide (0 ≤ wrap64 a) && decide (wrap64 a ≤ wrap64 (i - 1)) && (decide (0 ≤ wrap64 b) && decide (wrap64 b ≤ wrap64 (i - 1)))
  else false
def gatesOkB (n : Int) : Int → List S68 → Bool
  | _, [] => true
  | i, g :: gs => gateOkB n i g.f0 g.f1 g.f2 && gatesOkB n (i + 1) gs
def outOkB (m o : Int) : Bool := decide (0 ≤ wrap64 o) && decide (wrap64 o ≤ wrap64 (m - 1))
def headOkB (n : Int) (gs : List S68) (os : List Int) : Bool := decide (0 ≤ wrap64 n) && decide (wrap64 n ≤ 16) && (decide (gs.length ≤ 600) && decide (os.length ≤ 16))
def okB (n : Int) (gs : List S68) (os : List Int) : Bool := headOkB n gs os && (gatesOkB (wrap64 n) 0 gs && os.all (outOkB gs.length))
theorem l00In_eq (a b c : Int) : spec_l00In.f a b c = some (decide (b ≤ a) && decide (a ≤ c)) := by
  unfold spec_l00In.f
  by_cases h : a ≥ b
  · rw [if_pos h]; simp [h]
  · rw [if_neg h]; simp [h]
theorem within_eq (a b c : Int) : impl_within.f a b c = some (decide (b ≤ a) && decide (a ≤ c)) := by
  unfold impl_within.f
  by_cases h : b ≤ a
  · rw [if_pos h]; simp [h]
  · rw [if_neg h]; simp [h]
theorem l07Gate_eq (n i a b c : Int) (k : Nat) : spec_l07Gate.f (k + 1) a b c n i = some (gateOkB n i a b c) := by
  have hj : ∀ t, spec_l07Gate.j0 (k + 1) i (wrap64 b) (wrap64 c) t = some (if t = true then decide (0 ≤ wrap64 b) && decide (wrap64 b ≤ wrap64 (i - 1)) && (decide (0 ≤ wrap64 c) && decide (wrap64 c ≤ wrap64 (i - 1))) else false) := by
    intro t
    simp only [spec_l07Gate.j0, l00In_eq, Option.bind_some]
    cases t with
    | false => simp
    | true => by_cases h1 : 0 ≤ wrap64 b <;> by_cases h2 : wrap64 b ≤ wrap64 (i - 1) <;> simp [h1, h2]
  unfold spec_l07Gate.f gateOkB
  simp only [l00In_eq, Option.bind_some, hj]
  by_cases h0 : a = 0
  · simp only [h0, if_true]
    by_cases h1 : 0 ≤ wrap64 b <;> by_cases h2 : wrap64 b ≤ wrap64 (n - 1) <;> simp [h1, h2]
  · by_cases h1 : a = 1
    · simp only [h1]
      by_cases h2 : wrap64 b = 0 <;> simp [h2]
    · by_cases h2 : a = 2
      · simp [h2]
      · by_cases h3 : a = 3
        · simp [h3]
        · simp [h0, h1, h2, h3]
theorem isGate_eq (n : Int) (gs : List S68) (os : List Int) (i a b c : Int) : impl_Circuit_isGate.f n gs os a b c i = some (gateOkB (wrap64 n) i a b c) := by
  unfold impl_Circuit_isGate.f gateOkB impl_Gate_isPair.f
  simp only [within_eq, Option.bind_some]
  by_cases h0 : a = 0
  · simp only [h0, if_true]
    by_cases h1 : 0 ≤ wrap64 b <;> by_cases h2 : wrap64 b ≤ wrap64 (wrap64 n - 1) <;> simp [h1, h2]
  · by_cases h1 : a = 1
    · simp only [h1]
      by_cases h2 : wrap64 b = 0 <;> simp [h2]
    · by_cases h2 : a = 2
      · simp only [h2]
        by_cases h3 : 0 ≤ wrap64 b <;> by_cases h4 : wrap64 b ≤ wrap64 (i - 1) <;> simp [h3, h4]
      · by_cases h3 : a = 3
        · simp only [h3]
          by_cases h5 : 0 ≤ wrap64 b <;> by_cases h4 : wrap64 b ≤ wrap64 (i - 1) <;> simp [h5, h4]
        · simp [h0, h1, h2, h3]
theorem gatesOkB_drop (n : Int) (gs : List S68) (i : Nat) (h : i < gs.length) : gatesOkB n i (gs.drop i) = (gateOkB n i (rd_T68 gs i).f0 (rd_T68 gs i).f1 (rd_T68 gs i).f2 && gatesOkB n ((i + 1 : Nat) : Int) (gs.drop (i + 1))) := by
  rw [List.drop_eq_getElem_cons h]
  simp [gatesOkB, rd_T68, List.getD_eq_getElem?_getD, List.getElem?_eq_getElem h]
theorem outsOkB_drop (m : Int) (os : List Int) (i : Nat) (h : i < os.length) : (os.drop i).all (outOkB m) = (outOkB m (rd os i) && (os.drop (i + 1)).all (outOkB m)) := by
  rw [List.drop_eq_getElem_cons h, List.all_cons]
  simp [rd, List.getD_eq_getElem?_getD, List.getElem?_eq_getElem h]
theorem l07Ok_l1 (m n : Int) (gs : List S68) (os : List Int) (ho : os.length ≤ 16) : ∀ (d i : Nat), os.length - i = d → i ≤ os.length → Ev (fun k => spec_l07Ok.l1 k m (i : Int) n gs os) ((os.drop i).all (outOkB m)) := by
  intro d
  induction d with
  | zero =>
    intro i hd hi
    have e : i = os.length := by omega
    subst e
    exact Ev.step (f := fun _ => some true) (fun k => by simp only [spec_l07Ok.l1]; rw [if_neg (by omega)]) (by simp only [List.drop_length, List.all_nil]; exact Ev.now _)
  | succ d ih =>
    intro i hd hi
    have hlt : i < os.length := by omega
    rw [outsOkB_drop m os i hlt]
    cases hb : outOkB m (rd os i) with
    | true =>
      refine Ev.step (fun k => ?_) (by simpa using ih (i + 1) (by omega) (by omega))
      simp only [spec_l07Ok.l1, l00In_eq, Option.bind_some]
      rw [if_pos (by omega), if_pos (by omega), if_pos (by simpa [outOkB] using hb), w64_in (by omega) (by omega)]
    | false =>
      refine Ev.step (f := fun _ => some false) (fun k => ?_) (Ev.now _)
      simp only [spec_l07Ok.l1, l00In_eq, Option.bind_some]
      rw [if_pos (by omega), if_pos (by omega), if_neg (by simpa [outOkB] using hb)]
theorem l07Ok_l0 (n : Int) (gs : List S68) (os : List Int) (hg : gs.length ≤ 600) (ho : os.length ≤ 16) : ∀ (d i : Nat), gs.length - i = d → i ≤ gs.length → Ev (fun k => spec_l07Ok.l0 k (gs.length : Int) (i : Int) n gs os) (gatesOkB (wrap64 n) i (gs.drop i) && os.all (outOkB gs.length)) := by
  intro d
  induction d with
  | zero =>
    intro i hd hi
    have e : i = gs.length := by omega
    subst e
    refine Ev.step (fun k => ?_) (by simpa [gatesOkB] using l07Ok_l1 (gs.length : Int) n gs os ho os.length 0 (by omega) (by omega))
    simp only [spec_l07Ok.l0]
    rw [if_neg (by omega)]
  | succ d ih =>
    intro i hd hi
    have hlt : i < gs.length := by omega
    rw [gatesOkB_drop _ gs i hlt]
    cases hb : gateOkB (wrap64 n) i (rd_T68 gs i).f0 (rd_T68 gs i).f1 (rd_T68 gs i).f2 with
    | true =>
      refine Ev.step (f := fun k => (spec_l07Gate.f k (rd_T68 gs i).f0 (rd_T68 gs i).f1 (rd_T68 gs i).f2 (wrap64 n) i).bind fun t => if t = true then spec_l07Ok.l0 k (gs.length : Int) ((i + 1 : Nat) : Int) n gs os else some false) (fun k => ?_) (Ev.bind (a := true) ⟨1, fun k hk => ?_⟩ (ev_pos rfl (by simpa using ih (i + 1) (by omega) (by omega))))
      · simp only [spec_l07Ok.l0]
        rw [if_pos (by omega), if_pos (by omega), if_pos (by omega), w64_in (x := (i : Int) + 1) (by omega) (by omega)]
        rfl
      · obtain ⟨j, rfl⟩ : ∃ j, k = j + 1 := ⟨k - 1, by omega⟩
        show spec_l07Gate.f (j + 1) _ _ _ _ _ = _
        rw [l07Gate_eq, hb]
    | false =>
      refine Ev.step (f := fun k => (spec_l07Gate.f k (rd_T68 gs i).f0 (rd_T68 gs i).f1 (rd_T68 gs i).f2 (wrap64 n) i).bind fun t => if t = true then spec_l07Ok.l0 k (gs.length : Int) ((i + 1 : Nat) : Int) n gs os else some false) (fun k => ?_) (Ev.bind (a := false) ⟨1, fun k hk => ?_⟩ (ev_neg (by simp) (Ev.now _)))
      · simp only [spec_l07Ok.l0]
        rw [if_pos (by omega), if_pos (by omega), if_pos (by omega), w64_in (x := (i : Int) + 1) (by omega) (by omega)]
        rfl
      · obtain ⟨j, rfl⟩ : ∃ j, k = j + 1 := ⟨k - 1, by omega⟩
        show spec_l07Gate.f (j + 1) _ _ _ _ _ = _
        rw [l07Gate_eq, hb]
theorem l07Ok_ev (n : Int) (gs : List S68) (os : List Int) : Ev (fun k => spec_l07Ok.f k n gs os) (okB n gs os) := by
  unfold spec_l07Ok.f okB headOkB
  refine ev_some (l00In_eq _ _ _) ?_
  by_cases h1 : 0 ≤ wrap64 n ∧ wrap64 n ≤ 16
  · simp only [h1.1, h1.2, decide_true, Bool.and_self, if_true, Bool.true_and]
    by_cases h2 : gs.length ≤ 600
    · refine ev_neg (by omega) ?_
      by_cases h3 : os.length ≤ 16
      · refine Ev.step (fun k => ?_) (by simpa [h2, h3] using l07Ok_l0 n gs os h2 h3 gs.length 0 (by omega) (by omega))
        simp only [spec_l07Ok.j0]
        rw [if_neg (by simp; omega)]
      · refine Ev.step (f := fun _ => some false) (fun k => ?_) (by simp [h2, h3]; exact Ev.now _)
        simp only [spec_l07Ok.j0]
        rw [if_pos (by simp; omega)]
    · refine ev_pos (by omega) (Ev.step (f := fun _ => some false) (fun k => ?_) (by simp [h2]; exact Ev.now _))
      simp [spec_l07Ok.j0]
  · have h2 : (decide (0 ≤ wrap64 n) && decide (wrap64 n ≤ 16)) = false := by
      simp only [Bool.and_eq_false_iff, decide_eq_false_iff_not]
      omega
    rw [h2]
    simp only [Bool.false_and, Bool.false_eq_true, if_false]
    refine Ev.step (f := fun _ => some false) (fun k => ?_) (Ev.now _)
    simp [spec_l07Ok.j0]
theorem anyO_total {α : Type} (p : α → Option Bool) (q : α → Bool) (h : ∀ x, p x = some (q x)) : ∀ l : List α, anyO p l = some (l.any q)
  | [] => rfl
  | x :: l => by
    simp only [anyO, h, Option.bind_some, List.any_cons]
    cases q x with
    | true => rfl
    | false => simpa using anyO_total p q h l
theorem not_any_not (m : Int) : ∀ os : List Int, (!os.any fun o => !outOkB m o) = os.all (outOkB m)
  | [] => rfl
  | o :: os => by
    rw [List.any_cons, List.all_cons, ← not_any_not m os]
    cases outOkB m o <;> simp
theorem valid_l0 (n : Int) (gs : List S68) (os : List Int) (hg : gs.length ≤ 600) : ∀ (d i : Nat), gs.length - i = d → i ≤ gs.length → Ev (fun k => impl_ValidCircuit.l0 k gs (gs.length : Int) (i : Int) n gs os) (gatesOkB (wrap64 n) i (gs.drop i) && os.all (outOkB gs.length)) := by
  intro d
  induction d with
  | zero =>
    intro i hd hi
    have e : i = gs.length := by omega
    subst e
    refine Ev.step (f := fun _ => some (os.all (outOkB gs.length))) (fun k => ?_) (by simp [gatesOkB]; exact Ev.now _)
    simp only [impl_ValidCircuit.l0, slices_ContainsFunc_int16_int16.f]
    rw [if_neg (by omega), anyO_total _ (fun o => !outOkB gs.length o) (fun o => by simp only [impl_ValidCircuit_1.f, within_eq, Option.bind_some, outOkB])]
    simp only [Option.bind_some, not_any_not]
  | succ d ih =>
    intro i hd hi
    have hlt : i < gs.length := by omega
    rw [gatesOkB_drop _ gs i hlt]
    cases hb : gateOkB (wrap64 n) i (rd_T68 gs i).f0 (rd_T68 gs i).f1 (rd_T68 gs i).f2 with
    | true =>
      refine Ev.step (fun k => ?_) (by simpa using ih (i + 1) (by omega) (by omega))
      simp only [impl_ValidCircuit.l0, isGate_eq, hb, Option.bind_some]
      rw [if_pos (by omega), if_pos (by omega), if_pos (by omega), if_pos trivial, w64_in (x := (i : Int) + 1) (by omega) (by omega)]
    | false =>
      refine Ev.step (f := fun _ => some false) (fun k => ?_) (Ev.now _)
      simp only [impl_ValidCircuit.l0, isGate_eq, hb, Option.bind_some]
      rw [if_pos (by omega), if_pos (by omega), if_pos (by omega), if_neg (by simp)]
theorem valid_ev (n : Int) (gs : List S68) (os : List Int) : Ev (fun k => impl_ValidCircuit.f k n gs os) (okB n gs os) := by
  unfold impl_ValidCircuit.f okB headOkB
  refine ev_some (within_eq _ _ _) ?_
  by_cases h1 : 0 ≤ wrap64 n ∧ wrap64 n ≤ 16
  · simp only [h1.1, h1.2, decide_true, Bool.and_self, if_true, Bool.true_and]
    by_cases h2 : gs.length ≤ 600
    · refine ev_neg (by omega) ?_
      by_cases h3 : os.length ≤ 16
      · refine Ev.step (fun k => ?_) (by simpa [h2, h3] using valid_l0 n gs os h2 gs.length 0 (by omega) (by omega))
        simp only [impl_ValidCircuit.j0]
        rw [if_neg (by simp; omega)]
      · refine Ev.step (f := fun _ => some false) (fun k => ?_) (by simp [h2, h3]; exact Ev.now _)
        simp only [impl_ValidCircuit.j0]
        rw [if_pos (by simp; omega)]
    · refine ev_pos (by omega) (Ev.step (f := fun _ => some false) (fun k => ?_) (by simp [h2]; exact Ev.now _))
      simp [impl_ValidCircuit.j0]
  · have h2 : (decide (0 ≤ wrap64 n) && decide (wrap64 n ≤ 16)) = false := by
      simp only [Bool.and_eq_false_iff, decide_eq_false_iff_not]
      omega
    rw [h2]
    simp only [Bool.false_and, Bool.false_eq_true, if_false]
    refine Ev.step (f := fun _ => some false) (fun k => ?_) (Ev.now _)
    simp [impl_ValidCircuit.j0]
theorem okB_len {n : Int} {gs : List S68} {os : List Int} (h : okB n gs os = true) : gs.length ≤ 600 ∧ os.length ≤ 16 := by
  unfold okB headOkB at h
  simp only [Bool.and_eq_true, decide_eq_true_eq] at h
  exact h.1.2
end Go.Proofs.Yteanndgkjoinmaa.X
