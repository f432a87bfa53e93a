/- Texts of this claim, joined: what the claim's last text comes to. They hold without any condition beyond those that each states. -/
import Derived.Test.YteanndgkjoinmaaYFlip4
-- Laid by wip/xprint.py of this session (the kit's print program, with some contracts given by hand). Not trusted: Lean checks it.
namespace Go.Proofs.Yteanndgkjoinmaa.X
open Go.RowKit Go.Proofs.YteanndgkjoinmaaW.PrintWords Go.Proofs.YteanndgkjoinmaaW.PrintLast Go.Proofs.YteanndgkjoinmaaW.PrintMore
attribute [local go_sem] max2_int min2_int max_two min_two max_three min_three max_four min_four
set_option linter.unusedVariables false
set_option linter.unusedSimpArgs false
def laws_heldCircuit.f (k : Nat) (a0_0 : Int) (l0_1 : List (S68)) (l0_2 : List Int) (a1 : Int) : Option (Int) := (laws_heldGateS.f k l0_1 a1).bind fun t102 => (if t102 < 0 then (some (-1)) else ((laws_heldInt16S.f k l0_2 t102).bind fun t103 => (if t103 < 0 then (some (-1)) else (some t103))))
set_option maxHeartbeats 8000000 in
set_option maxRecDepth 100000 in
theorem laws_heldCircuit.calls (k : Nat) (a0_0 : Int) (A0_1 : Option Addr) (c0_1 : Nat) (l0_1 : List (S68)) (A0_2 : Option Addr) (c0_2 : Nat) (l0_2 : List Int) (a1 : Int) (r : Int) (w : World) (hr0_1 : Kd.C k68 w A0_1 l0_1.length l0_1) (hc0_1 : l0_1.length ≤ c0_1) (hr0_2 : Kd.C (Kd.int .i16) w A0_2 l0_2.length l0_2) (hc0_2 : l0_2.length ≤ c0_2) (h : laws_heldCircuit.f k a0_0 l0_1 l0_2 a1 = some r) :
    Calls Try.prog 15 #[.agg #[.int .i8 a0_0, .slice A0_1 l0_1.length c0_1, .slice A0_2 l0_2.length c0_2], .int .i64 a1] w fun e w' => e = .returned (.int .i64 r) ∧ Below w.heap.size w w' := by
  have hu30 := Try.underlying30
  have HR0_1 := Aside0.mk hr0_1
  have HC0_1 := Aside0.mk hc0_1
  clear hr0_1 hc0_1
  have HR0_2 := Aside0.mk hr0_2
  have HC0_2 := Aside0.mk hc0_2
  clear hr0_2 hc0_2
  have HB := Aside0.mk (Below.refl w.heap.size w)
  have H : ((laws_heldGateS.f k l0_1 a1).bind fun t102 => (if t102 < 0 then (some (-1)) else ((laws_heldInt16S.f k l0_2 t102).bind fun t103 => (if t103 < 0 then (some (-1)) else (some t103))))) = some r := h
  clear h
  replace H := Option.bind_eq_some_iff.mp H
  obtain ⟨t102, A30, H⟩ := H
  replace H : (if t102 < 0 then (some (-1)) else ((laws_heldInt16S.f k l0_2 t102).bind fun t103 => (if t103 < 0 then (some (-1)) else (some t103)))) = some r := H
  have A3 := Aside0.mk A30
  clear A30
  by_cases c4 : t102 < 0
  · rw [if_pos c4] at H
    have c4b0 : decide (t102 < 0) = true := decide_eq_true c4
    clear c4
    obtain rfl := Option.some.inj H
    go_enter Try.func15, Try.ntmps15
    go_wp2_with (first | ((with_reducible refine gate_dst (N := 2) rfl ?_); refine box_event ?hg (N := 2) ?hd (cs := #[.int .i8 a0_0, .slice A0_1 l0_1.length c0_1, .slice A0_2 l0_2.length c0_2]) (t := 30) ?hr ?_; (case hd => rfl); (case hg => rfl); (case hr => first | (go_simp; done) | (go_simp; rfl)); intro gb101 hg w5 hbox hb; have n0_ := Aside0.mk (below_step (by repeat (first | (with_reducible first | exact HB.out | apply below_alloc | apply pw_below_drewN | apply below_drew1) | exact HB.out)) hb); have n1_ := Aside0.mk (hbox); have n2_ := Aside0.mk ((by rw [hg]; exact (below_size (by repeat (first | (with_reducible first | exact HB.out | apply below_alloc | apply pw_below_drewN | apply below_drew1) | exact HB.out))) : w.heap.size ≤ gb101)); have n3_ := Aside0.mk ((by rw [hg]; exact (below_size (by repeat (first | (with_reducible first | exact HB.out | apply below_alloc | apply pw_below_drewN | apply below_drew1) | exact HB.out))) : w.heap.size ≤ gb101)); clear HB; have HB := n0_; have BK101 := n1_; have GW101 := n2_; have GE101 := n3_; clear n0_ n1_ n2_ n3_; clear hb hbox hg; have hcz6_0 : w5.cell? ⟨gb101, 0, none⟩ = some (.int .i8 a0_0) := (blk_cell BK101.out 0).trans rfl; have hcz6_1 : w5.cell? ⟨gb101, 1, none⟩ = some (.slice A0_1 l0_1.length c0_1) := (blk_cell BK101.out 1).trans rfl; have hcz6_2 : w5.cell? ⟨gb101, 2, none⟩ = some (.slice A0_2 l0_2.length c0_2) := (blk_cell BK101.out 2).trans rfl; have hfz6_0 := blk_frozen BK101.out 0; have hfz6_1 := blk_frozen BK101.out 1; have hfz6_2 := blk_frozen BK101.out 2) | ((with_reducible refine gate_callee (f := 56) rfl ?_); refine goesL_ (some 8) rfl rfl Try.func56 (by kernel_rfl) rfl #[.slice A0_1 l0_1.length c0_1, .int .i64 a1] rfl (by (try simp only [List.map_toArray, List.map_cons, List.map_nil]); first | done | rfl | (simp only [List.length_drop, List.length_take]; rfl)) ?_; (with_reducible refine (laws_heldGateS.calls k _ _ l0_1 a1 t102 _ ?side1 ?side2 A3.out).mono ?_); (case side1 => repeat (first | exact (Kd.C_below HR0_1.out HB.out) | (with_reducible refine Kd.C_alloc ?_ _) | (with_reducible refine Kd.C_drewN ?_ _) | (with_reducible refine Kd.C_drew ?_))); (case side2 => exact HC0_1.out); rintro e w' ⟨rfl, ⟨nd, rfl⟩⟩; refine ⟨_, rfl, ?_⟩))
    go_ret
    exact ⟨by first | rfl | (simp [errW_none, errW_some] <;> rfl) | (simp [*, errW_none, errW_some] <;> rfl), by repeat (first | (with_reducible first | exact HB.out | apply below_alloc | apply pw_below_drewN | apply below_drew1 | refine below_set ?_ GE101.out) | exact HB.out)⟩
  · rw [if_neg c4] at H
    have c4b0 : decide (t102 < 0) = false := decide_eq_false c4
    clear c4
    replace H := Option.bind_eq_some_iff.mp H
    obtain ⟨t103, A70, H⟩ := H
    replace H : (if t103 < 0 then (some (-1)) else (some t103)) = some r := H
    have A7 := Aside0.mk A70
    clear A70
    by_cases c8 : t103 < 0
    · rw [if_pos c8] at H
      have c8b0 : decide (t103 < 0) = true := decide_eq_true c8
      clear c8
      obtain rfl := Option.some.inj H
      go_enter Try.func15, Try.ntmps15
      go_wp2_with (first | ((with_reducible refine gate_dst (N := 2) rfl ?_); refine box_event ?hg (N := 2) ?hd (cs := #[.int .i8 a0_0, .slice A0_1 l0_1.length c0_1, .slice A0_2 l0_2.length c0_2]) (t := 30) ?hr ?_; (case hd => rfl); (case hg => rfl); (case hr => first | (go_simp; done) | (go_simp; rfl)); intro gb101 hg w9 hbox hb; have n0_ := Aside0.mk (below_step (by repeat (first | (with_reducible first | exact HB.out | apply below_alloc | apply pw_below_drewN | apply below_drew1) | exact HB.out)) hb); have n1_ := Aside0.mk (hbox); have n2_ := Aside0.mk ((by rw [hg]; exact (below_size (by repeat (first | (with_reducible first | exact HB.out | apply below_alloc | apply pw_below_drewN | apply below_drew1) | exact HB.out))) : w.heap.size ≤ gb101)); have n3_ := Aside0.mk ((by rw [hg]; exact (below_size (by repeat (first | (with_reducible first | exact HB.out | apply below_alloc | apply pw_below_drewN | apply below_drew1) | exact HB.out))) : w.heap.size ≤ gb101)); clear HB; have HB := n0_; have BK101 := n1_; have GW101 := n2_; have GE101 := n3_; clear n0_ n1_ n2_ n3_; clear hb hbox hg; have hcz10_0 : w9.cell? ⟨gb101, 0, none⟩ = some (.int .i8 a0_0) := (blk_cell BK101.out 0).trans rfl; have hcz10_1 : w9.cell? ⟨gb101, 1, none⟩ = some (.slice A0_1 l0_1.length c0_1) := (blk_cell BK101.out 1).trans rfl; have hcz10_2 : w9.cell? ⟨gb101, 2, none⟩ = some (.slice A0_2 l0_2.length c0_2) := (blk_cell BK101.out 2).trans rfl; have hfz10_0 := blk_frozen BK101.out 0; have hfz10_1 := blk_frozen BK101.out 1; have hfz10_2 := blk_frozen BK101.out 2) | ((with_reducible refine gate_callee (f := 56) rfl ?_); refine goesL_ (some 8) rfl rfl Try.func56 (by kernel_rfl) rfl #[.slice A0_1 l0_1.length c0_1, .int .i64 a1] rfl (by (try simp only [List.map_toArray, List.map_cons, List.map_nil]); first | done | rfl | (simp only [List.length_drop, List.length_take]; rfl)) ?_; (with_reducible refine (laws_heldGateS.calls k _ _ l0_1 a1 t102 _ ?side1 ?side2 A3.out).mono ?_); (case side1 => repeat (first | exact (Kd.C_below HR0_1.out HB.out) | (with_reducible refine Kd.C_alloc ?_ _) | (with_reducible refine Kd.C_drewN ?_ _) | (with_reducible refine Kd.C_drew ?_))); (case side2 => exact HC0_1.out); rintro e w' ⟨rfl, ⟨nd, rfl⟩⟩; refine ⟨_, rfl, ?_⟩) | ((with_reducible refine gate_callee (f := 57) rfl ?_); refine goesL_ (some 14) rfl rfl Try.func57 (by kernel_rfl) rfl #[.slice A0_2 l0_2.length c0_2, .int .i64 t102] rfl (by (try simp only [List.map_toArray, List.map_cons, List.map_nil]); first | done | rfl | (simp only [List.length_drop, List.length_take]; rfl)) ?_; (with_reducible refine (laws_heldInt16S.calls k _ _ l0_2 t102 t103 _ ?side1 ?side2 A7.out).mono ?_); (case side1 => repeat (first | exact (Kd.C_below HR0_2.out (by repeat (first | (with_reducible first | exact HB.out | apply below_alloc | apply pw_below_drewN | apply below_drew1 | refine below_set ?_ GE101.out) | exact HB.out))) | (with_reducible refine Kd.C_alloc ?_ _) | (with_reducible refine Kd.C_drewN ?_ _) | (with_reducible refine Kd.C_drew ?_))); (case side2 => exact HC0_2.out); rintro e w' ⟨rfl, ⟨nd, rfl⟩⟩; refine ⟨_, rfl, ?_⟩))
      go_ret
      exact ⟨by first | rfl | (simp [errW_none, errW_some] <;> rfl) | (simp [*, errW_none, errW_some] <;> rfl), by repeat (first | (with_reducible first | exact HB.out | apply below_alloc | apply pw_below_drewN | apply below_drew1 | refine below_set ?_ GE101.out) | exact HB.out)⟩
    · rw [if_neg c8] at H
      have c8b0 : decide (t103 < 0) = false := decide_eq_false c8
      clear c8
      obtain rfl := Option.some.inj H
      go_enter Try.func15, Try.ntmps15
      go_wp2_with (first | ((with_reducible refine gate_dst (N := 2) rfl ?_); refine box_event ?hg (N := 2) ?hd (cs := #[.int .i8 a0_0, .slice A0_1 l0_1.length c0_1, .slice A0_2 l0_2.length c0_2]) (t := 30) ?hr ?_; (case hd => rfl); (case hg => rfl); (case hr => first | (go_simp; done) | (go_simp; rfl)); intro gb101 hg w11 hbox hb; have n0_ := Aside0.mk (below_step (by repeat (first | (with_reducible first | exact HB.out | apply below_alloc | apply pw_below_drewN | apply below_drew1) | exact HB.out)) hb); have n1_ := Aside0.mk (hbox); have n2_ := Aside0.mk ((by rw [hg]; exact (below_size (by repeat (first | (with_reducible first | exact HB.out | apply below_alloc | apply pw_below_drewN | apply below_drew1) | exact HB.out))) : w.heap.size ≤ gb101)); have n3_ := Aside0.mk ((by rw [hg]; exact (below_size (by repeat (first | (with_reducible first | exact HB.out | apply below_alloc | apply pw_below_drewN | apply below_drew1) | exact HB.out))) : w.heap.size ≤ gb101)); clear HB; have HB := n0_; have BK101 := n1_; have GW101 := n2_; have GE101 := n3_; clear n0_ n1_ n2_ n3_; clear hb hbox hg; have hcz12_0 : w11.cell? ⟨gb101, 0, none⟩ = some (.int .i8 a0_0) := (blk_cell BK101.out 0).trans rfl; have hcz12_1 : w11.cell? ⟨gb101, 1, none⟩ = some (.slice A0_1 l0_1.length c0_1) := (blk_cell BK101.out 1).trans rfl; have hcz12_2 : w11.cell? ⟨gb101, 2, none⟩ = some (.slice A0_2 l0_2.length c0_2) := (blk_cell BK101.out 2).trans rfl; have hfz12_0 := blk_frozen BK101.out 0; have hfz12_1 := blk_frozen BK101.out 1; have hfz12_2 := blk_frozen BK101.out 2) | ((with_reducible refine gate_callee (f := 56) rfl ?_); refine goesL_ (some 8) rfl rfl Try.func56 (by kernel_rfl) rfl #[.slice A0_1 l0_1.length c0_1, .int .i64 a1] rfl (by (try simp only [List.map_toArray, List.map_cons, List.map_nil]); first | done | rfl | (simp only [List.length_drop, List.length_take]; rfl)) ?_; (with_reducible refine (laws_heldGateS.calls k _ _ l0_1 a1 t102 _ ?side1 ?side2 A3.out).mono ?_); (case side1 => repeat (first | exact (Kd.C_below HR0_1.out HB.out) | (with_reducible refine Kd.C_alloc ?_ _) | (with_reducible refine Kd.C_drewN ?_ _) | (with_reducible refine Kd.C_drew ?_))); (case side2 => exact HC0_1.out); rintro e w' ⟨rfl, ⟨nd, rfl⟩⟩; refine ⟨_, rfl, ?_⟩) | ((with_reducible refine gate_callee (f := 57) rfl ?_); refine goesL_ (some 14) rfl rfl Try.func57 (by kernel_rfl) rfl #[.slice A0_2 l0_2.length c0_2, .int .i64 t102] rfl (by (try simp only [List.map_toArray, List.map_cons, List.map_nil]); first | done | rfl | (simp only [List.length_drop, List.length_take]; rfl)) ?_; (with_reducible refine (laws_heldInt16S.calls k _ _ l0_2 t102 t103 _ ?side1 ?side2 A7.out).mono ?_); (case side1 => repeat (first | exact (Kd.C_below HR0_2.out (by repeat (first | (with_reducible first | exact HB.out | apply below_alloc | apply pw_below_drewN | apply below_drew1 | refine below_set ?_ GE101.out) | exact HB.out))) | (with_reducible refine Kd.C_alloc ?_ _) | (with_reducible refine Kd.C_drewN ?_ _) | (with_reducible refine Kd.C_drew ?_))); (case side2 => exact HC0_2.out); rintro e w' ⟨rfl, ⟨nd, rfl⟩⟩; refine ⟨_, rfl, ?_⟩))
      go_ret
      exact ⟨by first | rfl | (simp [errW_none, errW_some] <;> rfl) | (simp [*, errW_none, errW_some] <;> rfl), by repeat (first | (with_reducible first | exact HB.out | apply below_alloc | apply pw_below_drewN | apply below_drew1 | refine below_set ?_ GE101.out) | exact HB.out)⟩
end Go.Proofs.Yteanndgkjoinmaa.X

-- Laid by wip/xprint.py of this session (the kit's print program, with some contracts given by hand). Not trusted: Lean checks it.
namespace Go.Proofs.Yteanndgkjoinmaa.X
open Go.RowKit Go.Proofs.YteanndgkjoinmaaW.PrintWords Go.Proofs.YteanndgkjoinmaaW.PrintLast Go.Proofs.YteanndgkjoinmaaW.PrintMore
attribute [local go_sem] max2_int min2_int max_two min_two max_three min_three max_four min_four
set_option linter.unusedVariables false
set_option linter.unusedSimpArgs false
mutual
def laws_FnExactFlipGate.j0 : Nat → Int → Int → Int → Bool → Int → List (S114) → List Int → Int → List (S68) → List Int → Int → List (S68) → List Int → Int → List (S68) → List Int → Option (Bool)
  | 0, _, _, _, _, _, _, _, _, _, _, _, _, _, _, _, _ => none
  | k + 1, x1, x7, x10, x44, x102000, x102001, x102002, x119000, x119001, x119002, x127000, x127001, x127002, x136000, x136001, x136002 => if x44 = true then (none) else ((laws_toCircuit.f k x102000 x102001 x102002).bind fun bt137 => ((laws_eqCircuit.f k x127000 x127001 x127002 bt137.1 bt137.2.1 bt137.2.2).bind fun t144 => (if t144 = true then ((laws_markCircuit.f k x127000 x127001 x127002 1).bind fun bt145 => (if bt145.1 < 0 then (laws_FnExactFlipGate.j1 k x1 x7 true x102000 x102001 x102002 x119000 x119001 x119002 x136000 x136001 x136002) else ((laws_eqCircuit.f k x136000 x136001 x136002 x119000 x119001 x119002).bind fun t148 => (if t148 = true then (laws_FnExactFlipGate.j1 k x1 x7 (x10 != x7) x102000 x102001 x102002 x119000 x119001 x119002 x136000 x136001 x136002) else (laws_FnExactFlipGate.j1 k x1 x7 true x102000 x102001 x102002 x119000 x119001 x119002 x136000 x136001 x136002))))) else (none))))
def laws_FnExactFlipGate.j1 : Nat → Int → Int → Bool → Int → List (S114) → List Int → Int → List (S68) → List Int → Int → List (S68) → List Int → Option (Bool)
  | 0, _, _, _, _, _, _, _, _, _, _, _, _ => none
  | k + 1, x1, x7, x65, x102000, x102001, x102002, x119000, x119001, x119002, x136000, x136001, x136002 => if x65 = true then (none) else ((laws_markCircuit.f k x136000 x136001 x136002 1).bind fun bt149 => ((laws_heldCircuit.f k x136000 bt149.2.1 bt149.2.2 1).bind fun t152 => (if t152 < 0 then (none) else (if t152 = bt149.1 then ((laws_toCircuit.f k x102000 x102001 x102002).bind fun bt153 => ((impl_FlipGate.f k bt153.1 bt153.2.1 bt153.2.2 x1).bind fun bt160 => ((laws_eqCircuit.f k bt160.1 bt160.2.1 bt160.2.2.1 x119000 x119001 x119002).bind fun t169 => (if t169 = true then (laws_FnExactFlipGate.j2 k bt149.1 (bt160.2.2.2 != x7) x136000 bt149.2.1 bt149.2.2) else (laws_FnExactFlipGate.j2 k bt149.1 true x136000 bt149.2.1 bt149.2.2))))) else (none)))))
def laws_FnExactFlipGate.j2 : Nat → Int → Bool → Int → List (S68) → List Int → Option (Bool)
  | 0, _, _, _, _, _ => none
  | k + 1, x12, x92, x136000, x136001, x136002 => if x92 = true then (none) else ((laws_heldCircuit.f k x136000 x136001 x136002 1).bind fun t170 => (if t170 < 0 then (none) else (if t170 = x12 then (some true) else (none))))
end
def laws_FnExactFlipGate.f (k : Nat) (a0_0 : Int) (l0_1 : List (S114)) (l0_2 : List Int) (a1 : Int) : Option (Bool) := (laws_szCircuit.f a0_0 l0_1 l0_2 1048576).bind fun t102 => (if t102 < 0 then (some true) else ((laws_toCircuit.f k a0_0 l0_1 l0_2).bind fun bt103 => ((spec_FlipGate.f k bt103.1 bt103.2.1 bt103.2.2 a1).bind fun bt110 => ((laws_toCircuit.f k a0_0 l0_1 l0_2).bind fun bt119 => ((impl_FlipGate.f k bt119.1 bt119.2.1 bt119.2.2 a1).bind fun bt127 => ((laws_eqCircuit.f k bt127.1 bt127.2.1 bt127.2.2.1 bt110.1 bt110.2.1 bt110.2.2.1).bind fun t136 => (if t136 = true then (laws_FnExactFlipGate.j0 k a1 bt110.2.2.2 bt127.2.2.2 (bt127.2.2.2 != bt110.2.2.2) a0_0 l0_1 l0_2 bt110.1 bt110.2.1 bt110.2.2.1 bt119.1 bt119.2.1 bt119.2.2 bt127.1 bt127.2.1 bt127.2.2.1) else (laws_FnExactFlipGate.j0 k a1 bt110.2.2.2 bt127.2.2.2 true a0_0 l0_1 l0_2 bt110.1 bt110.2.1 bt110.2.2.1 bt119.1 bt119.2.1 bt119.2.2 bt127.1 bt127.2.1 bt127.2.2.1))))))))
set_option maxHeartbeats 8000000 in
set_option maxRecDepth 100000 in
theorem laws_FnExactFlipGate.calls (k : Nat) (a0_0 : Int) (A0_1 : Option Addr) (c0_1 : Nat) (l0_1 : List (S114)) (A0_2 : Option Addr) (c0_2 : Nat) (l0_2 : List Int) (a1 : Int) (r : Bool) (w : World) (hr0_1 : Kd.C k114 w A0_1 l0_1.length l0_1) (hc0_1 : l0_1.length ≤ c0_1) (hr0_2 : Kd.C (Kd.int .i16) w A0_2 l0_2.length l0_2) (hc0_2 : l0_2.length ≤ c0_2) (h : laws_FnExactFlipGate.f k a0_0 l0_1 l0_2 a1 = some r) :
    Calls Try.prog 3 #[.agg #[.int .i8 a0_0, .slice A0_1 l0_1.length c0_1, .slice A0_2 l0_2.length c0_2], .int .i64 a1] w fun e w' => e = .returned (.bool r) ∧ Below w.heap.size w w' := by
  have hu26 := Try.underlying26
  have hu30 := Try.underlying30
  have HR0_1 := Aside0.mk hr0_1
  have HC0_1 := Aside0.mk hc0_1
  clear hr0_1 hc0_1
  have HR0_2 := Aside0.mk hr0_2
  have HC0_2 := Aside0.mk hc0_2
  clear hr0_2 hc0_2
  have HB := Aside0.mk (Below.refl w.heap.size w)
  have H : ((laws_szCircuit.f a0_0 l0_1 l0_2 1048576).bind fun t102 => (if t102 < 0 then (some true) else ((laws_toCircuit.f k a0_0 l0_1 l0_2).bind fun bt103 => ((spec_FlipGate.f k bt103.1 bt103.2.1 bt103.2.2 a1).bind fun bt110 => ((laws_toCircuit.f k a0_0 l0_1 l0_2).bind fun bt119 => ((impl_FlipGate.f k bt119.1 bt119.2.1 bt119.2.2 a1).bind fun bt127 => ((laws_eqCircuit.f k bt127.1 bt127.2.1 bt127.2.2.1 bt110.1 bt110.2.1 bt110.2.2.1).bind fun t136 => (if t136 = true then (laws_FnExactFlipGate.j0 k a1 bt110.2.2.2 bt127.2.2.2 (bt127.2.2.2 != bt110.2.2.2) a0_0 l0_1 l0_2 bt110.1 bt110.2.1 bt110.2.2.1 bt119.1 bt119.2.1 bt119.2.2 bt127.1 bt127.2.1 bt127.2.2.1) else (laws_FnExactFlipGate.j0 k a1 bt110.2.2.2 bt127.2.2.2 true a0_0 l0_1 l0_2 bt110.1 bt110.2.1 bt110.2.2.1 bt119.1 bt119.2.1 bt119.2.2 bt127.1 bt127.2.1 bt127.2.2.1))))))))) = some r := h
  clear h
  replace H := Option.bind_eq_some_iff.mp H
  obtain ⟨t102, A30, H⟩ := H
  replace H : (if t102 < 0 then (some true) else ((laws_toCircuit.f k a0_0 l0_1 l0_2).bind fun bt103 => ((spec_FlipGate.f k bt103.1 bt103.2.1 bt103.2.2 a1).bind fun bt110 => ((laws_toCircuit.f k a0_0 l0_1 l0_2).bind fun bt119 => ((impl_FlipGate.f k bt119.1 bt119.2.1 bt119.2.2 a1).bind fun bt127 => ((laws_eqCircuit.f k bt127.1 bt127.2.1 bt127.2.2.1 bt110.1 bt110.2.1 bt110.2.2.1).bind fun t136 => (if t136 = true then (laws_FnExactFlipGate.j0 k a1 bt110.2.2.2 bt127.2.2.2 (bt127.2.2.2 != bt110.2.2.2) a0_0 l0_1 l0_2 bt110.1 bt110.2.1 bt110.2.2.1 bt119.1 bt119.2.1 bt119.2.2 bt127.1 bt127.2.1 bt127.2.2.1) else (laws_FnExactFlipGate.j0 k a1 bt110.2.2.2 bt127.2.2.2 true a0_0 l0_1 l0_2 bt110.1 bt110.2.1 bt110.2.2.1 bt119.1 bt119.2.1 bt119.2.2 bt127.1 bt127.2.1 bt127.2.2.1)))))))) = some r := H
  have A3 := Aside0.mk A30
  clear A30
  by_cases c4 : t102 < 0
  · rw [if_pos c4] at H
    have c4b0 : decide (t102 < 0) = true := decide_eq_true c4
    clear c4
    obtain rfl := Option.some.inj H
    go_enter Try.func3, Try.ntmps3
    go_wp2_with (first | ((with_reducible refine gate_dst (N := 2) rfl ?_); refine box_event ?hg (N := 2) ?hd (cs := #[.int .i8 a0_0, .slice A0_1 l0_1.length c0_1, .slice A0_2 l0_2.length c0_2]) (t := 26) ?hr ?_; (case hd => rfl); (case hg => rfl); (case hr => first | (go_simp; done) | (go_simp; rfl)); intro gb101 hg w5 hbox hb; have n0_ := Aside0.mk (below_step (by repeat (first | (with_reducible first | exact HB.out | apply below_alloc | apply pw_below_drewN | apply below_drew1) | exact HB.out)) hb); have n1_ := Aside0.mk (hbox); have n2_ := Aside0.mk ((by rw [hg]; exact (below_size (by repeat (first | (with_reducible first | exact HB.out | apply below_alloc | apply pw_below_drewN | apply below_drew1) | exact HB.out))) : w.heap.size ≤ gb101)); have n3_ := Aside0.mk ((by rw [hg]; exact (below_size (by repeat (first | (with_reducible first | exact HB.out | apply below_alloc | apply pw_below_drewN | apply below_drew1) | exact HB.out))) : w.heap.size ≤ gb101)); clear HB; have HB := n0_; have BK101 := n1_; have GW101 := n2_; have GE101 := n3_; clear n0_ n1_ n2_ n3_; clear hb hbox hg; have hcz6_0 : w5.cell? ⟨gb101, 0, none⟩ = some (.int .i8 a0_0) := (blk_cell BK101.out 0).trans rfl; have hcz6_1 : w5.cell? ⟨gb101, 1, none⟩ = some (.slice A0_1 l0_1.length c0_1) := (blk_cell BK101.out 1).trans rfl; have hcz6_2 : w5.cell? ⟨gb101, 2, none⟩ = some (.slice A0_2 l0_2.length c0_2) := (blk_cell BK101.out 2).trans rfl; have hfz6_0 := blk_frozen BK101.out 0; have hfz6_1 := blk_frozen BK101.out 1; have hfz6_2 := blk_frozen BK101.out 2) | ((with_reducible refine gate_callee (f := 9) rfl ?_); refine goesL_ (some 18) rfl rfl Try.func9 (by kernel_rfl) rfl #[.agg #[.int .i8 a0_0, .slice A0_1 l0_1.length c0_1, .slice A0_2 l0_2.length c0_2], .int .i64 1048576] rfl (by (try simp only [List.map_toArray, List.map_cons, List.map_nil]); first | done | rfl | (simp only [List.length_drop, List.length_take]; rfl)) ?_; (with_reducible refine (laws_szCircuit.calls a0_0 _ _ l0_1 _ _ l0_2 1048576 t102 _ ?side1 ?side2 ?side3 ?side4 A3.out).mono ?_); (case side1 => repeat (first | exact (Kd.C_below HR0_1.out HB.out) | (with_reducible refine Kd.C_alloc ?_ _) | (with_reducible refine Kd.C_drewN ?_ _) | (with_reducible refine Kd.C_drew ?_))); (case side2 => exact HC0_1.out); (case side3 => repeat (first | exact (Kd.C_below HR0_2.out HB.out) | (with_reducible refine Kd.C_alloc ?_ _) | (with_reducible refine Kd.C_drewN ?_ _) | (with_reducible refine Kd.C_drew ?_))); (case side4 => exact HC0_2.out); rintro e w7 ⟨rfl, hb⟩; refine ⟨_, rfl, ?_⟩; have n0_ := Aside0.mk (blk_below (g := gb101) (o := .cells #[.int .i8 a0_0, .slice A0_1 l0_1.length c0_1, .slice A0_2 l0_2.length c0_2] 26 (0, 0)) (by (with_reducible repeat (first | refine blk_drewN ?_ _ | refine blk_drew ?_ | refine blk_alloc ?_ _)); exact BK101.out) hb); have n1_ := Aside0.mk (below_step (by repeat (first | (with_reducible first | exact HB.out | apply below_alloc | apply pw_below_drewN | apply below_drew1 | refine below_set ?_ GE101.out) | exact HB.out)) hb); clear BK101; clear HB; have BK101 := n0_; have HB := n1_; clear n0_ n1_; (try clear hb); (try clear hb2); (try clear hk); (try clear hi)))
    go_ret
    exact ⟨by first | rfl | (simp [errW_none, errW_some] <;> rfl) | (simp [*, errW_none, errW_some] <;> rfl), by repeat (first | (with_reducible first | exact HB.out | apply below_alloc | apply pw_below_drewN | apply below_drew1 | refine below_set ?_ GE101.out) | exact HB.out)⟩
  · rw [if_neg c4] at H
    have c4b0 : decide (t102 < 0) = false := decide_eq_false c4
    clear c4
    replace H := Option.bind_eq_some_iff.mp H
    obtain ⟨⟨t103, t104, t107⟩, A80, H⟩ := H
    replace H : ((spec_FlipGate.f k t103 t104 t107 a1).bind fun bt110 => ((laws_toCircuit.f k a0_0 l0_1 l0_2).bind fun bt119 => ((impl_FlipGate.f k bt119.1 bt119.2.1 bt119.2.2 a1).bind fun bt127 => ((laws_eqCircuit.f k bt127.1 bt127.2.1 bt127.2.2.1 bt110.1 bt110.2.1 bt110.2.2.1).bind fun t136 => (if t136 = true then (laws_FnExactFlipGate.j0 k a1 bt110.2.2.2 bt127.2.2.2 (bt127.2.2.2 != bt110.2.2.2) a0_0 l0_1 l0_2 bt110.1 bt110.2.1 bt110.2.2.1 bt119.1 bt119.2.1 bt119.2.2 bt127.1 bt127.2.1 bt127.2.2.1) else (laws_FnExactFlipGate.j0 k a1 bt110.2.2.2 bt127.2.2.2 true a0_0 l0_1 l0_2 bt110.1 bt110.2.1 bt110.2.2.1 bt119.1 bt119.2.1 bt119.2.2 bt127.1 bt127.2.1 bt127.2.2.1)))))) = some r := H
    have A8 := Aside0.mk A80
    clear A80
    replace H := Option.bind_eq_some_iff.mp H
    obtain ⟨⟨t110, t111, t114, t117⟩, A90, H⟩ := H
    replace H : ((laws_toCircuit.f k a0_0 l0_1 l0_2).bind fun bt119 => ((impl_FlipGate.f k bt119.1 bt119.2.1 bt119.2.2 a1).bind fun bt127 => ((laws_eqCircuit.f k bt127.1 bt127.2.1 bt127.2.2.1 t110 t111 t114).bind fun t136 => (if t136 = true then (laws_FnExactFlipGate.j0 k a1 t117 bt127.2.2.2 (bt127.2.2.2 != t117) a0_0 l0_1 l0_2 t110 t111 t114 bt119.1 bt119.2.1 bt119.2.2 bt127.1 bt127.2.1 bt127.2.2.1) else (laws_FnExactFlipGate.j0 k a1 t117 bt127.2.2.2 true a0_0 l0_1 l0_2 t110 t111 t114 bt119.1 bt119.2.1 bt119.2.2 bt127.1 bt127.2.1 bt127.2.2.1))))) = some r := H
    have A9 := Aside0.mk A90
    clear A90
    replace H := Option.bind_eq_some_iff.mp H
    obtain ⟨⟨t119, t120, t123⟩, A100, H⟩ := H
    replace H : ((impl_FlipGate.f k t119 t120 t123 a1).bind fun bt127 => ((laws_eqCircuit.f k bt127.1 bt127.2.1 bt127.2.2.1 t110 t111 t114).bind fun t136 => (if t136 = true then (laws_FnExactFlipGate.j0 k a1 t117 bt127.2.2.2 (bt127.2.2.2 != t117) a0_0 l0_1 l0_2 t110 t111 t114 t119 t120 t123 bt127.1 bt127.2.1 bt127.2.2.1) else (laws_FnExactFlipGate.j0 k a1 t117 bt127.2.2.2 true a0_0 l0_1 l0_2 t110 t111 t114 t119 t120 t123 bt127.1 bt127.2.1 bt127.2.2.1)))) = some r := H
    have A10 := Aside0.mk A100
    clear A100
    replace H := Option.bind_eq_some_iff.mp H
    obtain ⟨⟨t127, t128, t131, t134⟩, A110, H⟩ := H
    replace H : ((laws_eqCircuit.f k t127 t128 t131 t110 t111 t114).bind fun t136 => (if t136 = true then (laws_FnExactFlipGate.j0 k a1 t117 t134 (t134 != t117) a0_0 l0_1 l0_2 t110 t111 t114 t119 t120 t123 t127 t128 t131) else (laws_FnExactFlipGate.j0 k a1 t117 t134 true a0_0 l0_1 l0_2 t110 t111 t114 t119 t120 t123 t127 t128 t131))) = some r := H
    have A11 := Aside0.mk A110
    clear A110
    have HC12 := Aside0.mk H
    clear H
    go_enter Try.func3, Try.ntmps3
    go_upto_region 8 with (first | ((with_reducible refine gate_dst (N := 2) rfl ?_); refine box_event ?hg (N := 2) ?hd (cs := #[.int .i8 a0_0, .slice A0_1 l0_1.length c0_1, .slice A0_2 l0_2.length c0_2]) (t := 26) ?hr ?_; (case hd => rfl); (case hg => rfl); (case hr => first | (go_simp; done) | (go_simp; rfl)); intro gb101 hg w13 hbox hb; have n0_ := Aside0.mk (below_step (by repeat (first | (with_reducible first | exact HB.out | apply below_alloc | apply pw_below_drewN | apply below_drew1) | exact HB.out)) hb); have n1_ := Aside0.mk (hbox); have n2_ := Aside0.mk ((by rw [hg]; exact (below_size (by repeat (first | (with_reducible first | exact HB.out | apply below_alloc | apply pw_below_drewN | apply below_drew1) | exact HB.out))) : w.heap.size ≤ gb101)); have n3_ := Aside0.mk ((by rw [hg]; exact (below_size (by repeat (first | (with_reducible first | exact HB.out | apply below_alloc | apply pw_below_drewN | apply below_drew1) | exact HB.out))) : w.heap.size ≤ gb101)); clear HB; have HB := n0_; have BK101 := n1_; have GW101 := n2_; have GE101 := n3_; clear n0_ n1_ n2_ n3_; clear hb hbox hg; have hcz14_0 : w13.cell? ⟨gb101, 0, none⟩ = some (.int .i8 a0_0) := (blk_cell BK101.out 0).trans rfl; have hcz14_1 : w13.cell? ⟨gb101, 1, none⟩ = some (.slice A0_1 l0_1.length c0_1) := (blk_cell BK101.out 1).trans rfl; have hcz14_2 : w13.cell? ⟨gb101, 2, none⟩ = some (.slice A0_2 l0_2.length c0_2) := (blk_cell BK101.out 2).trans rfl; have hfz14_0 := blk_frozen BK101.out 0; have hfz14_1 := blk_frozen BK101.out 1; have hfz14_2 := blk_frozen BK101.out 2) | ((with_reducible refine gate_callee (f := 9) rfl ?_); refine goesL_ (some 18) rfl rfl Try.func9 (by kernel_rfl) rfl #[.agg #[.int .i8 a0_0, .slice A0_1 l0_1.length c0_1, .slice A0_2 l0_2.length c0_2], .int .i64 1048576] rfl (by (try simp only [List.map_toArray, List.map_cons, List.map_nil]); first | done | rfl | (simp only [List.length_drop, List.length_take]; rfl)) ?_; (with_reducible refine (laws_szCircuit.calls a0_0 _ _ l0_1 _ _ l0_2 1048576 t102 _ ?side1 ?side2 ?side3 ?side4 A3.out).mono ?_); (case side1 => repeat (first | exact (Kd.C_below HR0_1.out HB.out) | (with_reducible refine Kd.C_alloc ?_ _) | (with_reducible refine Kd.C_drewN ?_ _) | (with_reducible refine Kd.C_drew ?_))); (case side2 => exact HC0_1.out); (case side3 => repeat (first | exact (Kd.C_below HR0_2.out HB.out) | (with_reducible refine Kd.C_alloc ?_ _) | (with_reducible refine Kd.C_drewN ?_ _) | (with_reducible refine Kd.C_drew ?_))); (case side4 => exact HC0_2.out); rintro e w15 ⟨rfl, hb⟩; refine ⟨_, rfl, ?_⟩; have n0_ := Aside0.mk (blk_below (g := gb101) (o := .cells #[.int .i8 a0_0, .slice A0_1 l0_1.length c0_1, .slice A0_2 l0_2.length c0_2] 26 (0, 0)) (by (with_reducible repeat (first | refine blk_drewN ?_ _ | refine blk_drew ?_ | refine blk_alloc ?_ _)); exact BK101.out) hb); have n1_ := Aside0.mk (below_step (by repeat (first | (with_reducible first | exact HB.out | apply below_alloc | apply pw_below_drewN | apply below_drew1 | refine below_set ?_ GE101.out) | exact HB.out)) hb); clear BK101; clear HB; have BK101 := n0_; have HB := n1_; clear n0_ n1_; (try clear hb); (try clear hb2); (try clear hk); (try clear hi); have hcz16_0 : w15.cell? ⟨gb101, 0, none⟩ = some (.int .i8 a0_0) := (blk_cell BK101.out 0).trans rfl; have hcz16_1 : w15.cell? ⟨gb101, 1, none⟩ = some (.slice A0_1 l0_1.length c0_1) := (blk_cell BK101.out 1).trans rfl; have hcz16_2 : w15.cell? ⟨gb101, 2, none⟩ = some (.slice A0_2 l0_2.length c0_2) := (blk_cell BK101.out 2).trans rfl; have hfz16_0 := blk_frozen BK101.out 0; have hfz16_1 := blk_frozen BK101.out 1; have hfz16_2 := blk_frozen BK101.out 2) | ((with_reducible refine gate_callee (f := 11) rfl ?_); refine goesL_ (some 23) rfl rfl Try.func11 (by kernel_rfl) rfl #[.agg #[.int .i8 a0_0, .slice A0_1 l0_1.length c0_1, .slice A0_2 l0_2.length c0_2]] rfl (by (try simp only [List.map_toArray, List.map_cons, List.map_nil]); first | done | rfl | (simp only [List.length_drop, List.length_take]; rfl)) ?_; (with_reducible refine (laws_toCircuit.calls k a0_0 _ _ l0_1 _ _ l0_2 t103 t104 t107 _ ?side1 ?side2 ?side3 ?side4 A8.out).mono ?_); (case side1 => repeat (first | exact (Kd.C_below HR0_1.out HB.out) | (with_reducible refine Kd.C_alloc ?_ _) | (with_reducible refine Kd.C_drewN ?_ _) | (with_reducible refine Kd.C_drew ?_))); (case side2 => exact HC0_1.out); (case side3 => repeat (first | exact (Kd.C_below HR0_2.out HB.out) | (with_reducible refine Kd.C_alloc ?_ _) | (with_reducible refine Kd.C_drewN ?_ _) | (with_reducible refine Kd.C_drew ?_))); (case side4 => exact HC0_2.out); rintro e w17 ⟨v105, v108, rfl, ho0, ho1, hb⟩; refine ⟨_, rfl, ?_⟩; have n0_ := Aside0.mk (Kd.R_lower ho0 (below_size (by repeat (first | (with_reducible first | exact HB.out | apply below_alloc | apply pw_below_drewN | apply below_drew1 | refine below_set ?_ GE101.out) | exact HB.out)))); have n1_ := Aside0.mk (Kd.R_lower ho1 (below_size (by repeat (first | (with_reducible first | exact HB.out | apply below_alloc | apply pw_below_drewN | apply below_drew1 | refine below_set ?_ GE101.out) | exact HB.out)))); have n2_ := Aside0.mk (blk_below (g := gb101) (o := .cells #[.int .i8 a0_0, .slice A0_1 l0_1.length c0_1, .slice A0_2 l0_2.length c0_2] 26 (0, 0)) (by (with_reducible repeat (first | refine blk_drewN ?_ _ | refine blk_drew ?_ | refine blk_alloc ?_ _)); exact BK101.out) hb); have n3_ := Aside0.mk (below_step (by repeat (first | (with_reducible first | exact HB.out | apply below_alloc | apply pw_below_drewN | apply below_drew1 | refine below_set ?_ GE101.out) | exact HB.out)) hb); clear BK101; clear HB; have HO106 := n0_; have HO109 := n1_; have BK101 := n2_; have HB := n3_; clear n0_ n1_ n2_ n3_; (try clear hb); (try clear hb2); (try clear hk); (try clear hi); (try clear ho0); (try clear ho1); obtain ⟨Ao18, co18, eo18⟩ := Kd.R_slice HO106.out; subst eo18; obtain ⟨Ao19, co19, eo19⟩ := Kd.R_slice HO109.out; subst eo19) | ((with_reducible refine gate_callee (f := 10) rfl ?_); refine goesL_ (some 25) rfl rfl Try.func10 (by kernel_rfl) rfl #[.agg #[.int .i8 t103, .slice Ao18 t104.length co18, .slice Ao19 t107.length co19], .int .i64 a1] rfl (by (try simp only [List.map_toArray, List.map_cons, List.map_nil]); first | done | rfl | (simp only [List.length_drop, List.length_take]; rfl)) ?_; (with_reducible refine (spec_FlipGate.calls k t103 _ _ t104 _ _ t107 a1 t110 t111 t114 t117 _ ?side1 ?side2 ?side3 ?side4 A9.out).mono ?_); (case side1 => repeat (first | exact (Kd.R_reads' HO106.out).2.2 | (with_reducible refine Kd.C_alloc ?_ _) | (with_reducible refine Kd.C_drewN ?_ _) | (with_reducible refine Kd.C_drew ?_))); (case side2 => exact (Kd.R_reads' HO106.out).2.1); (case side3 => repeat (first | exact (Kd.R_reads' HO109.out).2.2 | (with_reducible refine Kd.C_alloc ?_ _) | (with_reducible refine Kd.C_drewN ?_ _) | (with_reducible refine Kd.C_drew ?_))); (case side4 => exact (Kd.R_reads' HO109.out).2.1); rintro e w20 ⟨v112, v115, rfl, ho0, ho1, hb⟩; refine ⟨_, rfl, ?_⟩; have n0_ := Aside0.mk (Kd.R_elder' (by (with_reducible repeat (first | apply Kd.R_alloc | apply Kd.R_drewN | apply Kd.R_drew)); exact HO106.out) (Kd.R_base ho0) hb); have n1_ := Aside0.mk (Kd.R_elder' (by (with_reducible repeat (first | apply Kd.R_alloc | apply Kd.R_drewN | apply Kd.R_drew)); exact HO109.out) (Kd.R_base ho1) hb); have n2_ := Aside0.mk (Kd.R_lower (Kd.R_new' ho0 (Kd.R_lt (by (with_reducible repeat (first | apply Kd.R_alloc | apply Kd.R_drewN | apply Kd.R_drew)); exact HO106.out))) (below_size (by repeat (first | (with_reducible first | exact HB.out | apply below_alloc | apply pw_below_drewN | apply below_drew1 | refine below_set ?_ GE101.out) | exact HB.out)))); have n3_ := Aside0.mk (Kd.R_lower (Kd.R_new' ho1 (Kd.R_lt (by (with_reducible repeat (first | apply Kd.R_alloc | apply Kd.R_drewN | apply Kd.R_drew)); exact HO109.out))) (below_size (by repeat (first | (with_reducible first | exact HB.out | apply below_alloc | apply pw_below_drewN | apply below_drew1 | refine below_set ?_ GE101.out) | exact HB.out)))); have n4_ := Aside0.mk (blk_below (g := gb101) (o := .cells #[.int .i8 a0_0, .slice A0_1 l0_1.length c0_1, .slice A0_2 l0_2.length c0_2] 26 (0, 0)) (by (with_reducible repeat (first | refine blk_drewN ?_ _ | refine blk_drew ?_ | refine blk_alloc ?_ _)); exact BK101.out) hb); have n5_ := Aside0.mk (below_step (by repeat (first | (with_reducible first | exact HB.out | apply below_alloc | apply pw_below_drewN | apply below_drew1 | refine below_set ?_ GE101.out) | exact HB.out)) hb); clear HO106; clear HO109; clear BK101; clear HB; have HO106 := n0_; have HO109 := n1_; have HO113 := n2_; have HO116 := n3_; have BK101 := n4_; have HB := n5_; clear n0_ n1_ n2_ n3_ n4_ n5_; (try clear hb); (try clear hb2); (try clear hk); (try clear hi); (try clear ho0); (try clear ho1)) | ((with_reducible refine gate_dst (N := 6) rfl ?_); refine box_event ?hg (N := 6) ?hd (cs := #[.int .i8 0, .slice none 0 0, .slice none 0 0]) (t := 30) ?hr ?_; (case hd => rfl); (case hg => rfl); (case hr => first | (go_simp; done) | (go_simp; rfl)); intro gb118 hg w21 hbox hb; have n0_ := Aside0.mk (Kd.R_below (by (with_reducible repeat (first | apply Kd.R_alloc | apply Kd.R_drewN | apply Kd.R_drew)); exact HO106.out) hb); have n1_ := Aside0.mk (Kd.R_below (by (with_reducible repeat (first | apply Kd.R_alloc | apply Kd.R_drewN | apply Kd.R_drew)); exact HO109.out) hb); have n2_ := Aside0.mk (Kd.R_below (by (with_reducible repeat (first | apply Kd.R_alloc | apply Kd.R_drewN | apply Kd.R_drew)); exact HO113.out) hb); have n3_ := Aside0.mk (Kd.R_below (by (with_reducible repeat (first | apply Kd.R_alloc | apply Kd.R_drewN | apply Kd.R_drew)); exact HO116.out) hb); have n4_ := Aside0.mk (blk_below (g := gb101) (o := .cells #[.int .i8 a0_0, .slice A0_1 l0_1.length c0_1, .slice A0_2 l0_2.length c0_2] 26 (0, 0)) (by (with_reducible repeat (first | refine blk_drewN ?_ _ | refine blk_drew ?_ | refine blk_alloc ?_ _)); exact BK101.out) hb); have n5_ := Aside0.mk (below_step (by repeat (first | (with_reducible first | exact HB.out | apply below_alloc | apply pw_below_drewN | apply below_drew1 | refine below_set ?_ GE101.out) | exact HB.out)) hb); have n6_ := Aside0.mk (hbox); have n7_ := Aside0.mk ((by rw [hg]; exact (below_size (by repeat (first | (with_reducible first | exact HB.out | apply below_alloc | apply pw_below_drewN | apply below_drew1 | refine below_set ?_ GE101.out) | exact HB.out))) : w.heap.size ≤ gb118)); have n8_ := Aside0.mk ((by rw [hg]; exact (below_size (by repeat (first | (with_reducible first | exact HB.out | apply below_alloc | apply pw_below_drewN | apply below_drew1 | refine below_set ?_ GE101.out) | exact HB.out))) : w.heap.size ≤ gb118)); have n9_ := Aside0.mk ((by rw [hg]; exact Nat.ne_of_lt (blk_lt (g := gb101) (o := .cells #[.int .i8 a0_0, .slice A0_1 l0_1.length c0_1, .slice A0_2 l0_2.length c0_2] 26 (0, 0)) (by (with_reducible repeat (first | refine blk_drewN ?_ _ | refine blk_drew ?_ | refine blk_alloc ?_ _)); exact BK101.out)) : gb101 ≠ gb118)); have n10_ := Aside0.mk ((by rw [hg]; exact Nat.ne_of_gt (blk_lt (g := gb101) (o := .cells #[.int .i8 a0_0, .slice A0_1 l0_1.length c0_1, .slice A0_2 l0_2.length c0_2] 26 (0, 0)) (by (with_reducible repeat (first | refine blk_drewN ?_ _ | refine blk_drew ?_ | refine blk_alloc ?_ _)); exact BK101.out)) : gb118 ≠ gb101)); clear HO106; clear HO109; clear HO113; clear HO116; clear BK101; clear HB; have HO106 := n0_; have HO109 := n1_; have HO113 := n2_; have HO116 := n3_; have BK101 := n4_; have HB := n5_; have BK118 := n6_; have GW118 := n7_; have GE118 := n8_; have NB101_118 := n9_; have NB118_101 := n10_; clear n0_ n1_ n2_ n3_ n4_ n5_ n6_ n7_ n8_ n9_ n10_; clear hb hbox hg; have hnb22 := NB118_101.out; have hnc22 := NB101_118.out; have hcz23_0 : w21.cell? ⟨gb118, 0, none⟩ = some (.int .i8 0) := (blk_cell BK118.out 0).trans rfl; have hcz23_1 : w21.cell? ⟨gb118, 1, none⟩ = some (.slice none 0 0) := (blk_cell BK118.out 1).trans rfl; have hcz23_2 : w21.cell? ⟨gb118, 2, none⟩ = some (.slice none 0 0) := (blk_cell BK118.out 2).trans rfl; have hfz23_0 := blk_frozen BK118.out 0; have hfz23_1 := blk_frozen BK118.out 1; have hfz23_2 := blk_frozen BK118.out 2; obtain ⟨Ao24, co24, eo24⟩ := Kd.R_slice HO113.out; subst eo24; obtain ⟨Ao25, co25, eo25⟩ := Kd.R_slice HO116.out; subst eo25; have hcz26_0 : w21.cell? ⟨gb101, 0, none⟩ = some (.int .i8 a0_0) := (blk_cell BK101.out 0).trans rfl; have hcz26_1 : w21.cell? ⟨gb101, 1, none⟩ = some (.slice A0_1 l0_1.length c0_1) := (blk_cell BK101.out 1).trans rfl; have hcz26_2 : w21.cell? ⟨gb101, 2, none⟩ = some (.slice A0_2 l0_2.length c0_2) := (blk_cell BK101.out 2).trans rfl; have hfz26_0 := blk_frozen BK101.out 0; have hfz26_1 := blk_frozen BK101.out 1; have hfz26_2 := blk_frozen BK101.out 2) | ((with_reducible refine gate_callee (f := 11) rfl ?_); refine goesL_ (some 29) rfl rfl Try.func11 (by kernel_rfl) rfl #[.agg #[.int .i8 a0_0, .slice A0_1 l0_1.length c0_1, .slice A0_2 l0_2.length c0_2]] rfl (by (try simp only [List.map_toArray, List.map_cons, List.map_nil]); first | done | rfl | (simp only [List.length_drop, List.length_take]; rfl)) ?_; (with_reducible refine (laws_toCircuit.calls k a0_0 _ _ l0_1 _ _ l0_2 t119 t120 t123 _ ?side1 ?side2 ?side3 ?side4 A10.out).mono ?_); (case side1 => exact Kd.C_below HR0_1.out (by repeat (first | (with_reducible first | exact HB.out | apply below_alloc | apply pw_below_drewN | apply below_drew1 | refine below_set ?_ GE101.out | refine below_set ?_ GE118.out) | exact HB.out))); (case side2 => exact HC0_1.out); (case side3 => exact Kd.C_below HR0_2.out (by repeat (first | (with_reducible first | exact HB.out | apply below_alloc | apply pw_below_drewN | apply below_drew1 | refine below_set ?_ GE101.out | refine below_set ?_ GE118.out) | exact HB.out))); (case side4 => exact HC0_2.out); rintro e w27 ⟨v121, v124, rfl, ho0, ho1, hb⟩; refine ⟨_, rfl, ?_⟩; have n0_ := Aside0.mk (Kd.R_elder' (by (with_reducible repeat (first | apply Kd.R_alloc | apply Kd.R_drewN | apply Kd.R_drew)); exact (Kd.R_mono (Kd.R_far (p := ⟨gb118, 2, none⟩) (Kd.R_far (p := ⟨gb118, 1, none⟩) (Kd.R_far (p := ⟨gb118, 0, none⟩) (Kd.R_types HO106.out BK118.out (by decide)) (fun _ hk => hk.2) (.int .i8 t110)) (fun _ hk => hk.2) (.slice Ao24 t111.length co24)) (fun _ hk => hk.2) (.slice Ao25 t114.length co25)) (fun _ h_ => h_.1))) (Kd.R_base ho0) hb); have n1_ := Aside0.mk (Kd.R_elder' (by (with_reducible repeat (first | apply Kd.R_alloc | apply Kd.R_drewN | apply Kd.R_drew)); exact (Kd.R_mono (Kd.R_far (p := ⟨gb118, 2, none⟩) (Kd.R_far (p := ⟨gb118, 1, none⟩) (Kd.R_far (p := ⟨gb118, 0, none⟩) (Kd.R_types HO109.out BK118.out (by decide)) (fun _ hk => hk.2) (.int .i8 t110)) (fun _ hk => hk.2) (.slice Ao24 t111.length co24)) (fun _ hk => hk.2) (.slice Ao25 t114.length co25)) (fun _ h_ => h_.1))) (Kd.R_base ho1) hb); have n2_ := Aside0.mk (Kd.R_elder' (by (with_reducible repeat (first | apply Kd.R_alloc | apply Kd.R_drewN | apply Kd.R_drew)); exact (Kd.R_mono (Kd.R_far (p := ⟨gb118, 2, none⟩) (Kd.R_far (p := ⟨gb118, 1, none⟩) (Kd.R_far (p := ⟨gb118, 0, none⟩) (Kd.R_types HO113.out BK118.out (by decide)) (fun _ hk => hk.2) (.int .i8 t110)) (fun _ hk => hk.2) (.slice Ao24 t111.length co24)) (fun _ hk => hk.2) (.slice Ao25 t114.length co25)) (fun _ h_ => h_.1))) (Kd.R_base ho0) hb); have n3_ := Aside0.mk (Kd.R_elder' (by (with_reducible repeat (first | apply Kd.R_alloc | apply Kd.R_drewN | apply Kd.R_drew)); exact (Kd.R_mono (Kd.R_far (p := ⟨gb118, 2, none⟩) (Kd.R_far (p := ⟨gb118, 1, none⟩) (Kd.R_far (p := ⟨gb118, 0, none⟩) (Kd.R_types HO116.out BK118.out (by decide)) (fun _ hk => hk.2) (.int .i8 t110)) (fun _ hk => hk.2) (.slice Ao24 t111.length co24)) (fun _ hk => hk.2) (.slice Ao25 t114.length co25)) (fun _ h_ => h_.1))) (Kd.R_base ho1) hb); have n4_ := Aside0.mk (Kd.R_lower (Kd.R_new' (Kd.R_new' ho0 (Kd.R_lt (by (with_reducible repeat (first | apply Kd.R_alloc | apply Kd.R_drewN | apply Kd.R_drew)); exact (Kd.R_mono (Kd.R_far (p := ⟨gb118, 2, none⟩) (Kd.R_far (p := ⟨gb118, 1, none⟩) (Kd.R_far (p := ⟨gb118, 0, none⟩) (Kd.R_types HO106.out BK118.out (by decide)) (fun _ hk => hk.2) (.int .i8 t110)) (fun _ hk => hk.2) (.slice Ao24 t111.length co24)) (fun _ hk => hk.2) (.slice Ao25 t114.length co25)) (fun _ h_ => h_.1))))) (Kd.R_lt (by (with_reducible repeat (first | apply Kd.R_alloc | apply Kd.R_drewN | apply Kd.R_drew)); exact (Kd.R_mono (Kd.R_far (p := ⟨gb118, 2, none⟩) (Kd.R_far (p := ⟨gb118, 1, none⟩) (Kd.R_far (p := ⟨gb118, 0, none⟩) (Kd.R_types HO113.out BK118.out (by decide)) (fun _ hk => hk.2) (.int .i8 t110)) (fun _ hk => hk.2) (.slice Ao24 t111.length co24)) (fun _ hk => hk.2) (.slice Ao25 t114.length co25)) (fun _ h_ => h_.1))))) (below_size (by repeat (first | (with_reducible first | exact HB.out | apply below_alloc | apply pw_below_drewN | apply below_drew1 | refine below_set ?_ GE101.out | refine below_set ?_ GE118.out) | exact HB.out)))); have n5_ := Aside0.mk (Kd.R_lower (Kd.R_new' (Kd.R_new' ho1 (Kd.R_lt (by (with_reducible repeat (first | apply Kd.R_alloc | apply Kd.R_drewN | apply Kd.R_drew)); exact (Kd.R_mono (Kd.R_far (p := ⟨gb118, 2, none⟩) (Kd.R_far (p := ⟨gb118, 1, none⟩) (Kd.R_far (p := ⟨gb118, 0, none⟩) (Kd.R_types HO109.out BK118.out (by decide)) (fun _ hk => hk.2) (.int .i8 t110)) (fun _ hk => hk.2) (.slice Ao24 t111.length co24)) (fun _ hk => hk.2) (.slice Ao25 t114.length co25)) (fun _ h_ => h_.1))))) (Kd.R_lt (by (with_reducible repeat (first | apply Kd.R_alloc | apply Kd.R_drewN | apply Kd.R_drew)); exact (Kd.R_mono (Kd.R_far (p := ⟨gb118, 2, none⟩) (Kd.R_far (p := ⟨gb118, 1, none⟩) (Kd.R_far (p := ⟨gb118, 0, none⟩) (Kd.R_types HO116.out BK118.out (by decide)) (fun _ hk => hk.2) (.int .i8 t110)) (fun _ hk => hk.2) (.slice Ao24 t111.length co24)) (fun _ hk => hk.2) (.slice Ao25 t114.length co25)) (fun _ h_ => h_.1))))) (below_size (by repeat (first | (with_reducible first | exact HB.out | apply below_alloc | apply pw_below_drewN | apply below_drew1 | refine below_set ?_ GE101.out | refine below_set ?_ GE118.out) | exact HB.out)))); have n6_ := Aside0.mk (blk_below (g := gb101) (o := .cells #[.int .i8 a0_0, .slice A0_1 l0_1.length c0_1, .slice A0_2 l0_2.length c0_2] 26 (0, 0)) (by (with_reducible repeat (first | refine blk_drewN ?_ _ | refine blk_drew ?_ | refine blk_alloc ?_ _)); refine blk_far ?_ NB101_118.out _; (with_reducible repeat (first | refine blk_drewN ?_ _ | refine blk_drew ?_ | refine blk_alloc ?_ _)); refine blk_far ?_ NB101_118.out _; (with_reducible repeat (first | refine blk_drewN ?_ _ | refine blk_drew ?_ | refine blk_alloc ?_ _)); refine blk_far ?_ NB101_118.out _; (with_reducible repeat (first | refine blk_drewN ?_ _ | refine blk_drew ?_ | refine blk_alloc ?_ _)); exact BK101.out) hb); have n7_ := Aside0.mk (blk_below (g := gb118) (o := .cells #[.int .i8 t110, .slice Ao24 t111.length co24, .slice Ao25 t114.length co25] 30 (0, 0)) (by (with_reducible repeat (first | refine blk_drewN ?_ _ | refine blk_drew ?_ | refine blk_alloc ?_ _)); refine blk_put (cs := #[.int .i8 t110, .slice Ao24 t111.length co24, .slice none 0 0]) ?_ 2 _ rfl; (with_reducible repeat (first | refine blk_drewN ?_ _ | refine blk_drew ?_ | refine blk_alloc ?_ _)); refine blk_put (cs := #[.int .i8 t110, .slice none 0 0, .slice none 0 0]) ?_ 1 _ rfl; (with_reducible repeat (first | refine blk_drewN ?_ _ | refine blk_drew ?_ | refine blk_alloc ?_ _)); refine blk_put (cs := #[.int .i8 0, .slice none 0 0, .slice none 0 0]) ?_ 0 _ rfl; (with_reducible repeat (first | refine blk_drewN ?_ _ | refine blk_drew ?_ | refine blk_alloc ?_ _)); exact BK118.out) hb); have n8_ := Aside0.mk (below_step (by repeat (first | (with_reducible first | exact HB.out | apply below_alloc | apply pw_below_drewN | apply below_drew1 | refine below_set ?_ GE101.out | refine below_set ?_ GE118.out) | exact HB.out)) hb); clear HO106; clear HO109; clear HO113; clear HO116; clear BK101; clear BK118; clear HB; have HO106 := n0_; have HO109 := n1_; have HO113 := n2_; have HO116 := n3_; have HO122 := n4_; have HO125 := n5_; have BK101 := n6_; have BK118 := n7_; have HB := n8_; clear n0_ n1_ n2_ n3_ n4_ n5_ n6_ n7_ n8_; (try clear hb); (try clear hb2); (try clear hk); (try clear hi); (try clear ho0); (try clear ho1)) | ((with_reducible refine gate_dst (N := 8) rfl ?_); refine box_event ?hg (N := 8) ?hd (cs := #[.int .i8 0, .slice none 0 0, .slice none 0 0]) (t := 30) ?hr ?_; (case hd => rfl); (case hg => rfl); (case hr => first | (go_simp; done) | (go_simp; rfl)); intro gb126 hg w28 hbox hb; have n0_ := Aside0.mk (Kd.R_below (by (with_reducible repeat (first | apply Kd.R_alloc | apply Kd.R_drewN | apply Kd.R_drew)); exact HO106.out) hb); have n1_ := Aside0.mk (Kd.R_below (by (with_reducible repeat (first | apply Kd.R_alloc | apply Kd.R_drewN | apply Kd.R_drew)); exact HO109.out) hb); have n2_ := Aside0.mk (Kd.R_below (by (with_reducible repeat (first | apply Kd.R_alloc | apply Kd.R_drewN | apply Kd.R_drew)); exact HO113.out) hb); have n3_ := Aside0.mk (Kd.R_below (by (with_reducible repeat (first | apply Kd.R_alloc | apply Kd.R_drewN | apply Kd.R_drew)); exact HO116.out) hb); have n4_ := Aside0.mk (Kd.R_below (by (with_reducible repeat (first | apply Kd.R_alloc | apply Kd.R_drewN | apply Kd.R_drew)); exact HO122.out) hb); have n5_ := Aside0.mk (Kd.R_below (by (with_reducible repeat (first | apply Kd.R_alloc | apply Kd.R_drewN | apply Kd.R_drew)); exact HO125.out) hb); have n6_ := Aside0.mk (blk_below (g := gb101) (o := .cells #[.int .i8 a0_0, .slice A0_1 l0_1.length c0_1, .slice A0_2 l0_2.length c0_2] 26 (0, 0)) (by (with_reducible repeat (first | refine blk_drewN ?_ _ | refine blk_drew ?_ | refine blk_alloc ?_ _)); exact BK101.out) hb); have n7_ := Aside0.mk (blk_below (g := gb118) (o := .cells #[.int .i8 t110, .slice Ao24 t111.length co24, .slice Ao25 t114.length co25] 30 (0, 0)) (by (with_reducible repeat (first | refine blk_drewN ?_ _ | refine blk_drew ?_ | refine blk_alloc ?_ _)); exact BK118.out) hb); have n8_ := Aside0.mk (below_step (by repeat (first | (with_reducible first | exact HB.out | apply below_alloc | apply pw_below_drewN | apply below_drew1 | refine below_set ?_ GE101.out | refine below_set ?_ GE118.out) | exact HB.out)) hb); have n9_ := Aside0.mk (hbox); have n10_ := Aside0.mk ((by rw [hg]; exact (below_size (by repeat (first | (with_reducible first | exact HB.out | apply below_alloc | apply pw_below_drewN | apply below_drew1 | refine below_set ?_ GE101.out | refine below_set ?_ GE118.out) | exact HB.out))) : w.heap.size ≤ gb126)); have n11_ := Aside0.mk ((by rw [hg]; exact (below_size (by repeat (first | (with_reducible first | exact HB.out | apply below_alloc | apply pw_below_drewN | apply below_drew1 | refine below_set ?_ GE101.out | refine below_set ?_ GE118.out) | exact HB.out))) : w.heap.size ≤ gb126)); have n12_ := Aside0.mk ((by rw [hg]; exact Nat.ne_of_lt (blk_lt (g := gb101) (o := .cells #[.int .i8 a0_0, .slice A0_1 l0_1.length c0_1, .slice A0_2 l0_2.length c0_2] 26 (0, 0)) (by (with_reducible repeat (first | refine blk_drewN ?_ _ | refine blk_drew ?_ | refine blk_alloc ?_ _)); exact BK101.out)) : gb101 ≠ gb126)); have n13_ := Aside0.mk ((by rw [hg]; exact Nat.ne_of_gt (blk_lt (g := gb101) (o := .cells #[.int .i8 a0_0, .slice A0_1 l0_1.length c0_1, .slice A0_2 l0_2.length c0_2] 26 (0, 0)) (by (with_reducible repeat (first | refine blk_drewN ?_ _ | refine blk_drew ?_ | refine blk_alloc ?_ _)); exact BK101.out)) : gb126 ≠ gb101)); have n14_ := Aside0.mk ((by rw [hg]; exact Nat.ne_of_lt (blk_lt (g := gb118) (o := .cells #[.int .i8 t110, .slice Ao24 t111.length co24, .slice Ao25 t114.length co25] 30 (0, 0)) (by (with_reducible repeat (first | refine blk_drewN ?_ _ | refine blk_drew ?_ | refine blk_alloc ?_ _)); exact BK118.out)) : gb118 ≠ gb126)); have n15_ := Aside0.mk ((by rw [hg]; exact Nat.ne_of_gt (blk_lt (g := gb118) (o := .cells #[.int .i8 t110, .slice Ao24 t111.length co24, .slice Ao25 t114.length co25] 30 (0, 0)) (by (with_reducible repeat (first | refine blk_drewN ?_ _ | refine blk_drew ?_ | refine blk_alloc ?_ _)); exact BK118.out)) : gb126 ≠ gb118)); clear HO106; clear HO109; clear HO113; clear HO116; clear HO122; clear HO125; clear BK101; clear BK118; clear HB; have HO106 := n0_; have HO109 := n1_; have HO113 := n2_; have HO116 := n3_; have HO122 := n4_; have HO125 := n5_; have BK101 := n6_; have BK118 := n7_; have HB := n8_; have BK126 := n9_; have GW126 := n10_; have GE126 := n11_; have NB101_126 := n12_; have NB126_101 := n13_; have NB118_126 := n14_; have NB126_118 := n15_; clear n0_ n1_ n2_ n3_ n4_ n5_ n6_ n7_ n8_ n9_ n10_ n11_ n12_ n13_ n14_ n15_; clear hb hbox hg; have hnb29 := NB126_101.out; have hnc29 := NB101_126.out; have hnb30 := NB126_118.out; have hnc30 := NB118_126.out; have hcz31_0 : w28.cell? ⟨gb126, 0, none⟩ = some (.int .i8 0) := (blk_cell BK126.out 0).trans rfl; have hcz31_1 : w28.cell? ⟨gb126, 1, none⟩ = some (.slice none 0 0) := (blk_cell BK126.out 1).trans rfl; have hcz31_2 : w28.cell? ⟨gb126, 2, none⟩ = some (.slice none 0 0) := (blk_cell BK126.out 2).trans rfl; have hfz31_0 := blk_frozen BK126.out 0; have hfz31_1 := blk_frozen BK126.out 1; have hfz31_2 := blk_frozen BK126.out 2; obtain ⟨Ao32, co32, eo32⟩ := Kd.R_slice HO122.out; subst eo32; obtain ⟨Ao33, co33, eo33⟩ := Kd.R_slice HO125.out; subst eo33) | ((with_reducible refine gate_callee (f := 12) rfl ?_); refine goesL_ (some 33) rfl rfl Try.func12 (by kernel_rfl) rfl #[.agg #[.int .i8 t119, .slice Ao32 t120.length co32, .slice Ao33 t123.length co33], .int .i64 a1] rfl (by (try simp only [List.map_toArray, List.map_cons, List.map_nil]); first | done | rfl | (simp only [List.length_drop, List.length_take]; rfl)) ?_; (with_reducible refine (impl_FlipGate.calls k t119 _ _ t120 _ _ t123 a1 t127 t128 t131 t134 _ ?side1 ?side2 ?side3 ?side4 A11.out).mono ?_); (case side1 => refine (Kd.R_reads' (e := 68) (base := w.heap.size) (ok := fun k_ => ((True ∧ some k_ ≠ (.slice Ao18 t104.length co18 : Value).ownBlock) ∧ some k_ ≠ (.slice Ao24 t111.length co24 : Value).ownBlock)) (n := t120.length) (c := co32) ?_).2.2; exact (by (with_reducible repeat (first | apply Kd.R_alloc | apply Kd.R_drewN | apply Kd.R_drew)); exact (Kd.R_mono (Kd.R_far (p := ⟨gb126, 2, none⟩) (Kd.R_far (p := ⟨gb126, 1, none⟩) (Kd.R_far (p := ⟨gb126, 0, none⟩) (Kd.R_types HO122.out BK126.out (by decide)) (fun _ hk => hk.2) (.int .i8 t119)) (fun _ hk => hk.2) (.slice Ao32 t120.length co32)) (fun _ hk => hk.2) (.slice Ao33 t123.length co33)) (fun _ h_ => h_.1)))); (case side2 => exact (Kd.R_reads' HO122.out).2.1); (case side3 => refine (Kd.R_reads' (e := 66) (base := w.heap.size) (ok := fun k_ => ((True ∧ some k_ ≠ (.slice Ao19 t107.length co19 : Value).ownBlock) ∧ some k_ ≠ (.slice Ao25 t114.length co25 : Value).ownBlock)) (n := t123.length) (c := co33) ?_).2.2; exact (by (with_reducible repeat (first | apply Kd.R_alloc | apply Kd.R_drewN | apply Kd.R_drew)); exact (Kd.R_mono (Kd.R_far (p := ⟨gb126, 2, none⟩) (Kd.R_far (p := ⟨gb126, 1, none⟩) (Kd.R_far (p := ⟨gb126, 0, none⟩) (Kd.R_types HO125.out BK126.out (by decide)) (fun _ hk => hk.2) (.int .i8 t119)) (fun _ hk => hk.2) (.slice Ao32 t120.length co32)) (fun _ hk => hk.2) (.slice Ao33 t123.length co33)) (fun _ h_ => h_.1)))); (case side4 => exact (Kd.R_reads' HO125.out).2.1); rintro e w34 ⟨v129, v132, rfl, ho0, ho1, hb⟩; refine ⟨_, rfl, ?_⟩; have n0_ := Aside0.mk (Kd.R_elder' (by (with_reducible repeat (first | apply Kd.R_alloc | apply Kd.R_drewN | apply Kd.R_drew)); exact (Kd.R_mono (Kd.R_far (p := ⟨gb126, 2, none⟩) (Kd.R_far (p := ⟨gb126, 1, none⟩) (Kd.R_far (p := ⟨gb126, 0, none⟩) (Kd.R_types HO106.out BK126.out (by decide)) (fun _ hk => hk.2) (.int .i8 t119)) (fun _ hk => hk.2) (.slice Ao32 t120.length co32)) (fun _ hk => hk.2) (.slice Ao33 t123.length co33)) (fun _ h_ => h_.1))) (Kd.R_base ho0) hb); have n1_ := Aside0.mk (Kd.R_elder' (by (with_reducible repeat (first | apply Kd.R_alloc | apply Kd.R_drewN | apply Kd.R_drew)); exact (Kd.R_mono (Kd.R_far (p := ⟨gb126, 2, none⟩) (Kd.R_far (p := ⟨gb126, 1, none⟩) (Kd.R_far (p := ⟨gb126, 0, none⟩) (Kd.R_types HO109.out BK126.out (by decide)) (fun _ hk => hk.2) (.int .i8 t119)) (fun _ hk => hk.2) (.slice Ao32 t120.length co32)) (fun _ hk => hk.2) (.slice Ao33 t123.length co33)) (fun _ h_ => h_.1))) (Kd.R_base ho1) hb); have n2_ := Aside0.mk (Kd.R_elder' (by (with_reducible repeat (first | apply Kd.R_alloc | apply Kd.R_drewN | apply Kd.R_drew)); exact (Kd.R_mono (Kd.R_far (p := ⟨gb126, 2, none⟩) (Kd.R_far (p := ⟨gb126, 1, none⟩) (Kd.R_far (p := ⟨gb126, 0, none⟩) (Kd.R_types HO113.out BK126.out (by decide)) (fun _ hk => hk.2) (.int .i8 t119)) (fun _ hk => hk.2) (.slice Ao32 t120.length co32)) (fun _ hk => hk.2) (.slice Ao33 t123.length co33)) (fun _ h_ => h_.1))) (Kd.R_base ho0) hb); have n3_ := Aside0.mk (Kd.R_elder' (by (with_reducible repeat (first | apply Kd.R_alloc | apply Kd.R_drewN | apply Kd.R_drew)); exact (Kd.R_mono (Kd.R_far (p := ⟨gb126, 2, none⟩) (Kd.R_far (p := ⟨gb126, 1, none⟩) (Kd.R_far (p := ⟨gb126, 0, none⟩) (Kd.R_types HO116.out BK126.out (by decide)) (fun _ hk => hk.2) (.int .i8 t119)) (fun _ hk => hk.2) (.slice Ao32 t120.length co32)) (fun _ hk => hk.2) (.slice Ao33 t123.length co33)) (fun _ h_ => h_.1))) (Kd.R_base ho1) hb); have n4_ := Aside0.mk (Kd.R_elder' (by (with_reducible repeat (first | apply Kd.R_alloc | apply Kd.R_drewN | apply Kd.R_drew)); exact (Kd.R_mono (Kd.R_far (p := ⟨gb126, 2, none⟩) (Kd.R_far (p := ⟨gb126, 1, none⟩) (Kd.R_far (p := ⟨gb126, 0, none⟩) (Kd.R_types HO122.out BK126.out (by decide)) (fun _ hk => hk.2) (.int .i8 t119)) (fun _ hk => hk.2) (.slice Ao32 t120.length co32)) (fun _ hk => hk.2) (.slice Ao33 t123.length co33)) (fun _ h_ => h_.1))) (Kd.R_base ho0) hb); have n5_ := Aside0.mk (Kd.R_elder' (by (with_reducible repeat (first | apply Kd.R_alloc | apply Kd.R_drewN | apply Kd.R_drew)); exact (Kd.R_mono (Kd.R_far (p := ⟨gb126, 2, none⟩) (Kd.R_far (p := ⟨gb126, 1, none⟩) (Kd.R_far (p := ⟨gb126, 0, none⟩) (Kd.R_types HO125.out BK126.out (by decide)) (fun _ hk => hk.2) (.int .i8 t119)) (fun _ hk => hk.2) (.slice Ao32 t120.length co32)) (fun _ hk => hk.2) (.slice Ao33 t123.length co33)) (fun _ h_ => h_.1))) (Kd.R_base ho1) hb); have n6_ := Aside0.mk (Kd.R_lower (Kd.R_new' (Kd.R_new' (Kd.R_new' ho0 (Kd.R_lt (by (with_reducible repeat (first | apply Kd.R_alloc | apply Kd.R_drewN | apply Kd.R_drew)); exact (Kd.R_mono (Kd.R_far (p := ⟨gb126, 2, none⟩) (Kd.R_far (p := ⟨gb126, 1, none⟩) (Kd.R_far (p := ⟨gb126, 0, none⟩) (Kd.R_types HO106.out BK126.out (by decide)) (fun _ hk => hk.2) (.int .i8 t119)) (fun _ hk => hk.2) (.slice Ao32 t120.length co32)) (fun _ hk => hk.2) (.slice Ao33 t123.length co33)) (fun _ h_ => h_.1))))) (Kd.R_lt (by (with_reducible repeat (first | apply Kd.R_alloc | apply Kd.R_drewN | apply Kd.R_drew)); exact (Kd.R_mono (Kd.R_far (p := ⟨gb126, 2, none⟩) (Kd.R_far (p := ⟨gb126, 1, none⟩) (Kd.R_far (p := ⟨gb126, 0, none⟩) (Kd.R_types HO113.out BK126.out (by decide)) (fun _ hk => hk.2) (.int .i8 t119)) (fun _ hk => hk.2) (.slice Ao32 t120.length co32)) (fun _ hk => hk.2) (.slice Ao33 t123.length co33)) (fun _ h_ => h_.1))))) (Kd.R_lt (by (with_reducible repeat (first | apply Kd.R_alloc | apply Kd.R_drewN | apply Kd.R_drew)); exact (Kd.R_mono (Kd.R_far (p := ⟨gb126, 2, none⟩) (Kd.R_far (p := ⟨gb126, 1, none⟩) (Kd.R_far (p := ⟨gb126, 0, none⟩) (Kd.R_types HO122.out BK126.out (by decide)) (fun _ hk => hk.2) (.int .i8 t119)) (fun _ hk => hk.2) (.slice Ao32 t120.length co32)) (fun _ hk => hk.2) (.slice Ao33 t123.length co33)) (fun _ h_ => h_.1))))) (below_size (by repeat (first | (with_reducible first | exact HB.out | apply below_alloc | apply pw_below_drewN | apply below_drew1 | refine below_set ?_ GE101.out | refine below_set ?_ GE118.out | refine below_set ?_ GE126.out) | exact HB.out)))); have n7_ := Aside0.mk (Kd.R_lower (Kd.R_new' (Kd.R_new' (Kd.R_new' ho1 (Kd.R_lt (by (with_reducible repeat (first | apply Kd.R_alloc | apply Kd.R_drewN | apply Kd.R_drew)); exact (Kd.R_mono (Kd.R_far (p := ⟨gb126, 2, none⟩) (Kd.R_far (p := ⟨gb126, 1, none⟩) (Kd.R_far (p := ⟨gb126, 0, none⟩) (Kd.R_types HO109.out BK126.out (by decide)) (fun _ hk => hk.2) (.int .i8 t119)) (fun _ hk => hk.2) (.slice Ao32 t120.length co32)) (fun _ hk => hk.2) (.slice Ao33 t123.length co33)) (fun _ h_ => h_.1))))) (Kd.R_lt (by (with_reducible repeat (first | apply Kd.R_alloc | apply Kd.R_drewN | apply Kd.R_drew)); exact (Kd.R_mono (Kd.R_far (p := ⟨gb126, 2, none⟩) (Kd.R_far (p := ⟨gb126, 1, none⟩) (Kd.R_far (p := ⟨gb126, 0, none⟩) (Kd.R_types HO116.out BK126.out (by decide)) (fun _ hk => hk.2) (.int .i8 t119)) (fun _ hk => hk.2) (.slice Ao32 t120.length co32)) (fun _ hk => hk.2) (.slice Ao33 t123.length co33)) (fun _ h_ => h_.1))))) (Kd.R_lt (by (with_reducible repeat (first | apply Kd.R_alloc | apply Kd.R_drewN | apply Kd.R_drew)); exact (Kd.R_mono (Kd.R_far (p := ⟨gb126, 2, none⟩) (Kd.R_far (p := ⟨gb126, 1, none⟩) (Kd.R_far (p := ⟨gb126, 0, none⟩) (Kd.R_types HO125.out BK126.out (by decide)) (fun _ hk => hk.2) (.int .i8 t119)) (fun _ hk => hk.2) (.slice Ao32 t120.length co32)) (fun _ hk => hk.2) (.slice Ao33 t123.length co33)) (fun _ h_ => h_.1))))) (below_size (by repeat (first | (with_reducible first | exact HB.out | apply below_alloc | apply pw_below_drewN | apply below_drew1 | refine below_set ?_ GE101.out | refine below_set ?_ GE118.out | refine below_set ?_ GE126.out) | exact HB.out)))); have n8_ := Aside0.mk (blk_below (g := gb101) (o := .cells #[.int .i8 a0_0, .slice A0_1 l0_1.length c0_1, .slice A0_2 l0_2.length c0_2] 26 (0, 0)) (by (with_reducible repeat (first | refine blk_drewN ?_ _ | refine blk_drew ?_ | refine blk_alloc ?_ _)); refine blk_far ?_ NB101_126.out _; (with_reducible repeat (first | refine blk_drewN ?_ _ | refine blk_drew ?_ | refine blk_alloc ?_ _)); refine blk_far ?_ NB101_126.out _; (with_reducible repeat (first | refine blk_drewN ?_ _ | refine blk_drew ?_ | refine blk_alloc ?_ _)); refine blk_far ?_ NB101_126.out _; (with_reducible repeat (first | refine blk_drewN ?_ _ | refine blk_drew ?_ | refine blk_alloc ?_ _)); exact BK101.out) hb); have n9_ := Aside0.mk (blk_below (g := gb118) (o := .cells #[.int .i8 t110, .slice Ao24 t111.length co24, .slice Ao25 t114.length co25] 30 (0, 0)) (by (with_reducible repeat (first | refine blk_drewN ?_ _ | refine blk_drew ?_ | refine blk_alloc ?_ _)); refine blk_far ?_ NB118_126.out _; (with_reducible repeat (first | refine blk_drewN ?_ _ | refine blk_drew ?_ | refine blk_alloc ?_ _)); refine blk_far ?_ NB118_126.out _; (with_reducible repeat (first | refine blk_drewN ?_ _ | refine blk_drew ?_ | refine blk_alloc ?_ _)); refine blk_far ?_ NB118_126.out _; (with_reducible repeat (first | refine blk_drewN ?_ _ | refine blk_drew ?_ | refine blk_alloc ?_ _)); exact BK118.out) hb); have n10_ := Aside0.mk (blk_below (g := gb126) (o := .cells #[.int .i8 t119, .slice Ao32 t120.length co32, .slice Ao33 t123.length co33] 30 (0, 0)) (by (with_reducible repeat (first | refine blk_drewN ?_ _ | refine blk_drew ?_ | refine blk_alloc ?_ _)); refine blk_put (cs := #[.int .i8 t119, .slice Ao32 t120.length co32, .slice none 0 0]) ?_ 2 _ rfl; (with_reducible repeat (first | refine blk_drewN ?_ _ | refine blk_drew ?_ | refine blk_alloc ?_ _)); refine blk_put (cs := #[.int .i8 t119, .slice none 0 0, .slice none 0 0]) ?_ 1 _ rfl; (with_reducible repeat (first | refine blk_drewN ?_ _ | refine blk_drew ?_ | refine blk_alloc ?_ _)); refine blk_put (cs := #[.int .i8 0, .slice none 0 0, .slice none 0 0]) ?_ 0 _ rfl; (with_reducible repeat (first | refine blk_drewN ?_ _ | refine blk_drew ?_ | refine blk_alloc ?_ _)); exact BK126.out) hb); have n11_ := Aside0.mk (below_step (by repeat (first | (with_reducible first | exact HB.out | apply below_alloc | apply pw_below_drewN | apply below_drew1 | refine below_set ?_ GE101.out | refine below_set ?_ GE118.out | refine below_set ?_ GE126.out) | exact HB.out)) hb); clear HO106; clear HO109; clear HO113; clear HO116; clear HO122; clear HO125; clear BK101; clear BK118; clear BK126; clear HB; have HO106 := n0_; have HO109 := n1_; have HO113 := n2_; have HO116 := n3_; have HO122 := n4_; have HO125 := n5_; have HO130 := n6_; have HO133 := n7_; have BK101 := n8_; have BK118 := n9_; have BK126 := n10_; have HB := n11_; clear n0_ n1_ n2_ n3_ n4_ n5_ n6_ n7_ n8_ n9_ n10_ n11_; (try clear hb); (try clear hb2); (try clear hk); (try clear hi); (try clear ho0); (try clear ho1)) | ((with_reducible refine gate_dst (N := 9) rfl ?_); refine box_event ?hg (N := 9) ?hd (cs := #[.int .i8 0, .slice none 0 0, .slice none 0 0]) (t := 30) ?hr ?_; (case hd => rfl); (case hg => rfl); (case hr => first | (go_simp; done) | (go_simp; rfl)); intro gb135 hg w35 hbox hb; have n0_ := Aside0.mk (Kd.R_below (by (with_reducible repeat (first | apply Kd.R_alloc | apply Kd.R_drewN | apply Kd.R_drew)); exact HO106.out) hb); have n1_ := Aside0.mk (Kd.R_below (by (with_reducible repeat (first | apply Kd.R_alloc | apply Kd.R_drewN | apply Kd.R_drew)); exact HO109.out) hb); have n2_ := Aside0.mk (Kd.R_below (by (with_reducible repeat (first | apply Kd.R_alloc | apply Kd.R_drewN | apply Kd.R_drew)); exact HO113.out) hb); have n3_ := Aside0.mk (Kd.R_below (by (with_reducible repeat (first | apply Kd.R_alloc | apply Kd.R_drewN | apply Kd.R_drew)); exact HO116.out) hb); have n4_ := Aside0.mk (Kd.R_below (by (with_reducible repeat (first | apply Kd.R_alloc | apply Kd.R_drewN | apply Kd.R_drew)); exact HO122.out) hb); have n5_ := Aside0.mk (Kd.R_below (by (with_reducible repeat (first | apply Kd.R_alloc | apply Kd.R_drewN | apply Kd.R_drew)); exact HO125.out) hb); have n6_ := Aside0.mk (Kd.R_below (by (with_reducible repeat (first | apply Kd.R_alloc | apply Kd.R_drewN | apply Kd.R_drew)); exact HO130.out) hb); have n7_ := Aside0.mk (Kd.R_below (by (with_reducible repeat (first | apply Kd.R_alloc | apply Kd.R_drewN | apply Kd.R_drew)); exact HO133.out) hb); have n8_ := Aside0.mk (blk_below (g := gb101) (o := .cells #[.int .i8 a0_0, .slice A0_1 l0_1.length c0_1, .slice A0_2 l0_2.length c0_2] 26 (0, 0)) (by (with_reducible repeat (first | refine blk_drewN ?_ _ | refine blk_drew ?_ | refine blk_alloc ?_ _)); exact BK101.out) hb); have n9_ := Aside0.mk (blk_below (g := gb118) (o := .cells #[.int .i8 t110, .slice Ao24 t111.length co24, .slice Ao25 t114.length co25] 30 (0, 0)) (by (with_reducible repeat (first | refine blk_drewN ?_ _ | refine blk_drew ?_ | refine blk_alloc ?_ _)); exact BK118.out) hb); have n10_ := Aside0.mk (blk_below (g := gb126) (o := .cells #[.int .i8 t119, .slice Ao32 t120.length co32, .slice Ao33 t123.length co33] 30 (0, 0)) (by (with_reducible repeat (first | refine blk_drewN ?_ _ | refine blk_drew ?_ | refine blk_alloc ?_ _)); exact BK126.out) hb); have n11_ := Aside0.mk (below_step (by repeat (first | (with_reducible first | exact HB.out | apply below_alloc | apply pw_below_drewN | apply below_drew1 | refine below_set ?_ GE101.out | refine below_set ?_ GE118.out | refine below_set ?_ GE126.out) | exact HB.out)) hb); have n12_ := Aside0.mk (hbox); have n13_ := Aside0.mk ((by rw [hg]; exact (below_size (by repeat (first | (with_reducible first | exact HB.out | apply below_alloc | apply pw_below_drewN | apply below_drew1 | refine below_set ?_ GE101.out | refine below_set ?_ GE118.out | refine below_set ?_ GE126.out) | exact HB.out))) : w.heap.size ≤ gb135)); have n14_ := Aside0.mk ((by rw [hg]; exact (below_size (by repeat (first | (with_reducible first | exact HB.out | apply below_alloc | apply pw_below_drewN | apply below_drew1 | refine below_set ?_ GE101.out | refine below_set ?_ GE118.out | refine below_set ?_ GE126.out) | exact HB.out))) : w.heap.size ≤ gb135)); have n15_ := Aside0.mk ((by rw [hg]; exact Nat.ne_of_lt (blk_lt (g := gb101) (o := .cells #[.int .i8 a0_0, .slice A0_1 l0_1.length c0_1, .slice A0_2 l0_2.length c0_2] 26 (0, 0)) (by (with_reducible repeat (first | refine blk_drewN ?_ _ | refine blk_drew ?_ | refine blk_alloc ?_ _)); exact BK101.out)) : gb101 ≠ gb135)); have n16_ := Aside0.mk ((by rw [hg]; exact Nat.ne_of_gt (blk_lt (g := gb101) (o := .cells #[.int .i8 a0_0, .slice A0_1 l0_1.length c0_1, .slice A0_2 l0_2.length c0_2] 26 (0, 0)) (by (with_reducible repeat (first | refine blk_drewN ?_ _ | refine blk_drew ?_ | refine blk_alloc ?_ _)); exact BK101.out)) : gb135 ≠ gb101)); have n17_ := Aside0.mk ((by rw [hg]; exact Nat.ne_of_lt (blk_lt (g := gb118) (o := .cells #[.int .i8 t110, .slice Ao24 t111.length co24, .slice Ao25 t114.length co25] 30 (0, 0)) (by (with_reducible repeat (first | refine blk_drewN ?_ _ | refine blk_drew ?_ | refine blk_alloc ?_ _)); exact BK118.out)) : gb118 ≠ gb135)); have n18_ := Aside0.mk ((by rw [hg]; exact Nat.ne_of_gt (blk_lt (g := gb118) (o := .cells #[.int .i8 t110, .slice Ao24 t111.length co24, .slice Ao25 t114.length co25] 30 (0, 0)) (by (with_reducible repeat (first | refine blk_drewN ?_ _ | refine blk_drew ?_ | refine blk_alloc ?_ _)); exact BK118.out)) : gb135 ≠ gb118)); have n19_ := Aside0.mk ((by rw [hg]; exact Nat.ne_of_lt (blk_lt (g := gb126) (o := .cells #[.int .i8 t119, .slice Ao32 t120.length co32, .slice Ao33 t123.length co33] 30 (0, 0)) (by (with_reducible repeat (first | refine blk_drewN ?_ _ | refine blk_drew ?_ | refine blk_alloc ?_ _)); exact BK126.out)) : gb126 ≠ gb135)); have n20_ := Aside0.mk ((by rw [hg]; exact Nat.ne_of_gt (blk_lt (g := gb126) (o := .cells #[.int .i8 t119, .slice Ao32 t120.length co32, .slice Ao33 t123.length co33] 30 (0, 0)) (by (with_reducible repeat (first | refine blk_drewN ?_ _ | refine blk_drew ?_ | refine blk_alloc ?_ _)); exact BK126.out)) : gb135 ≠ gb126)); clear HO106; clear HO109; clear HO113; clear HO116; clear HO122; clear HO125; clear HO130; clear HO133; clear BK101; clear BK118; clear BK126; clear HB; have HO106 := n0_; have HO109 := n1_; have HO113 := n2_; have HO116 := n3_; have HO122 := n4_; have HO125 := n5_; have HO130 := n6_; have HO133 := n7_; have BK101 := n8_; have BK118 := n9_; have BK126 := n10_; have HB := n11_; have BK135 := n12_; have GW135 := n13_; have GE135 := n14_; have NB101_135 := n15_; have NB135_101 := n16_; have NB118_135 := n17_; have NB135_118 := n18_; have NB126_135 := n19_; have NB135_126 := n20_; clear n0_ n1_ n2_ n3_ n4_ n5_ n6_ n7_ n8_ n9_ n10_ n11_ n12_ n13_ n14_ n15_ n16_ n17_ n18_ n19_ n20_; clear hb hbox hg; have hnb36 := NB135_101.out; have hnc36 := NB101_135.out; have hnb37 := NB135_118.out; have hnc37 := NB118_135.out; have hnb38 := NB135_126.out; have hnc38 := NB126_135.out; have hcz39_0 : w35.cell? ⟨gb135, 0, none⟩ = some (.int .i8 0) := (blk_cell BK135.out 0).trans rfl; have hcz39_1 : w35.cell? ⟨gb135, 1, none⟩ = some (.slice none 0 0) := (blk_cell BK135.out 1).trans rfl; have hcz39_2 : w35.cell? ⟨gb135, 2, none⟩ = some (.slice none 0 0) := (blk_cell BK135.out 2).trans rfl; have hfz39_0 := blk_frozen BK135.out 0; have hfz39_1 := blk_frozen BK135.out 1; have hfz39_2 := blk_frozen BK135.out 2; obtain ⟨Ao40, co40, eo40⟩ := Kd.R_slice HO130.out; subst eo40; obtain ⟨Ao41, co41, eo41⟩ := Kd.R_slice HO133.out; subst eo41))
    (try simp only [Act.put, List.setIfInBounds_toArray, List.set_cons_zero, List.set_cons_succ])
    go_cut [44] (fun v44 wc => ∃ (kq : Nat) (x44_11 : Bool), v44 = .bool x44_11 ∧ Aside0 (laws_FnExactFlipGate.j0 kq a1 t117 t134 x44_11 a0_0 l0_1 l0_2 t110 t111 t114 t119 t120 t123 t127 t128 t131 = some r) ∧ Aside0 (kq ≤ k) ∧ Aside0 (Kd.R k68 68 wc w.heap.size (fun k_ => some k_ ≠ ((.slice Ao32 t120.length co32) : Value).ownBlock ∧ some k_ ≠ ((.slice Ao40 t128.length co40) : Value).ownBlock) (.slice Ao24 t111.length co24) t111) ∧ Aside0 (Kd.R (Kd.int .i16) 66 wc w.heap.size (fun k_ => some k_ ≠ ((.slice Ao33 t123.length co33) : Value).ownBlock ∧ some k_ ≠ ((.slice Ao41 t131.length co41) : Value).ownBlock) (.slice Ao25 t114.length co25) t114) ∧ Aside0 (Kd.R k68 68 wc w.heap.size (fun k_ => some k_ ≠ ((.slice Ao24 t111.length co24) : Value).ownBlock ∧ some k_ ≠ ((.slice Ao40 t128.length co40) : Value).ownBlock) (.slice Ao32 t120.length co32) t120) ∧ Aside0 (Kd.R (Kd.int .i16) 66 wc w.heap.size (fun k_ => some k_ ≠ ((.slice Ao25 t114.length co25) : Value).ownBlock ∧ some k_ ≠ ((.slice Ao41 t131.length co41) : Value).ownBlock) (.slice Ao33 t123.length co33) t123) ∧ Aside0 (Kd.R k68 68 wc w.heap.size (fun k_ => some k_ ≠ ((.slice Ao24 t111.length co24) : Value).ownBlock ∧ some k_ ≠ ((.slice Ao32 t120.length co32) : Value).ownBlock) (.slice Ao40 t128.length co40) t128) ∧ Aside0 (Kd.R (Kd.int .i16) 66 wc w.heap.size (fun k_ => some k_ ≠ ((.slice Ao25 t114.length co25) : Value).ownBlock ∧ some k_ ≠ ((.slice Ao33 t123.length co33) : Value).ownBlock) (.slice Ao41 t131.length co41) t131) ∧ Aside0 (wc.heap[gb101]? = some (.cells #[.int .i8 a0_0, (.slice A0_1 l0_1.length c0_1), (.slice A0_2 l0_2.length c0_2)] 26 (0, 0))) ∧ Aside0 (wc.heap[gb118]? = some (.cells #[.int .i8 t110, (.slice Ao24 t111.length co24), (.slice Ao25 t114.length co25)] 30 (0, 0))) ∧ Aside0 (wc.heap[gb126]? = some (.cells #[.int .i8 t119, (.slice Ao32 t120.length co32), (.slice Ao33 t123.length co33)] 30 (0, 0))) ∧ Aside0 (wc.heap[gb135]? = some (.cells #[.int .i8 t127, (.slice Ao40 t128.length co40), (.slice Ao41 t131.length co41)] 30 (0, 0))) ∧ Aside0 (Below w.heap.size w wc))
    case first =>
      have H := HC12.out
      clear HC12
      replace H := Option.bind_eq_some_iff.mp H
      obtain ⟨t136, A420, H⟩ := H
      replace H : (if t136 = true then (laws_FnExactFlipGate.j0 k a1 t117 t134 (t134 != t117) a0_0 l0_1 l0_2 t110 t111 t114 t119 t120 t123 t127 t128 t131) else (laws_FnExactFlipGate.j0 k a1 t117 t134 true a0_0 l0_1 l0_2 t110 t111 t114 t119 t120 t123 t127 t128 t131)) = some r := H
      have A42 := Aside0.mk A420
      clear A420
      by_cases c43 : t136 = true
      · subst c43
        have H1 : (laws_FnExactFlipGate.j0 k a1 t117 t134 (t134 != t117) a0_0 l0_1 l0_2 t110 t111 t114 t119 t120 t123 t127 t128 t131) = some r := by rw [if_pos rfl] at H; exact H
        clear H
        have H := H1
        clear H1
        have H' := Aside0.mk H
        clear H
        have hnb44 := NB135_101.out
        have hnc44 := NB101_135.out
        have hnb45 := NB135_118.out
        have hnc45 := NB118_135.out
        have hnb46 := NB135_126.out
        have hnc46 := NB126_135.out
        have hcz47_0 : w35.cell? ⟨gb135, 0, none⟩ = some (.int .i8 0) := (blk_cell BK135.out 0).trans rfl
        have hcz47_1 : w35.cell? ⟨gb135, 1, none⟩ = some (.slice none 0 0) := (blk_cell BK135.out 1).trans rfl
        have hcz47_2 : w35.cell? ⟨gb135, 2, none⟩ = some (.slice none 0 0) := (blk_cell BK135.out 2).trans rfl
        have hfz47_0 := blk_frozen BK135.out 0
        have hfz47_1 := blk_frozen BK135.out 1
        have hfz47_2 := blk_frozen BK135.out 2
        have hnb48 := NB118_101.out
        have hnc48 := NB101_118.out
        have hnb49 := NB118_126.out
        have hnc49 := NB126_118.out
        have hcz50_0 : w35.cell? ⟨gb118, 0, none⟩ = some (.int .i8 t110) := (blk_cell BK118.out 0).trans rfl
        have hcz50_1 : w35.cell? ⟨gb118, 1, none⟩ = some (.slice Ao24 t111.length co24) := (blk_cell BK118.out 1).trans rfl
        have hcz50_2 : w35.cell? ⟨gb118, 2, none⟩ = some (.slice Ao25 t114.length co25) := (blk_cell BK118.out 2).trans rfl
        have hfz50_0 := blk_frozen BK118.out 0
        have hfz50_1 := blk_frozen BK118.out 1
        have hfz50_2 := blk_frozen BK118.out 2
        go_wp2_with (first | ((with_reducible refine gate_callee (f := 13) rfl ?_); refine goesL_ (some 38) rfl rfl Try.func13 (by kernel_rfl) rfl #[.agg #[.int .i8 t127, .slice Ao40 t128.length co40, .slice Ao41 t131.length co41], .agg #[.int .i8 t110, .slice Ao24 t111.length co24, .slice Ao25 t114.length co25]] rfl (by (try simp only [List.map_toArray, List.map_cons, List.map_nil]); first | done | rfl | (simp only [List.length_drop, List.length_take]; rfl)) ?_; (with_reducible refine (laws_eqCircuit.calls k t127 _ _ t128 _ _ t131 t110 _ _ t111 _ _ t114 true _ ?side1 ?side2 ?side3 ?side4 ?side5 ?side6 ?side7 ?side8 A42.out).mono ?_); (case side1 => refine (Kd.R_reads' (e := 68) (base := w.heap.size) (ok := fun k_ => (((True ∧ some k_ ≠ (.slice Ao18 t104.length co18 : Value).ownBlock) ∧ some k_ ≠ (.slice Ao24 t111.length co24 : Value).ownBlock) ∧ some k_ ≠ (.slice Ao32 t120.length co32 : Value).ownBlock)) (n := t128.length) (c := co40) ?_).2.2; exact (by (with_reducible repeat (first | apply Kd.R_alloc | apply Kd.R_drewN | apply Kd.R_drew)); exact (Kd.R_mono (Kd.R_far (p := ⟨gb135, 2, none⟩) (Kd.R_far (p := ⟨gb135, 1, none⟩) (Kd.R_far (p := ⟨gb135, 0, none⟩) (Kd.R_types HO130.out BK135.out (by decide)) (fun _ hk => hk.2) (.int .i8 t127)) (fun _ hk => hk.2) (.slice Ao40 t128.length co40)) (fun _ hk => hk.2) (.slice Ao41 t131.length co41)) (fun _ h_ => h_.1)))); (case side2 => exact (Kd.R_reads' HO130.out).2.1); (case side3 => refine (Kd.R_reads' (e := 66) (base := w.heap.size) (ok := fun k_ => (((True ∧ some k_ ≠ (.slice Ao19 t107.length co19 : Value).ownBlock) ∧ some k_ ≠ (.slice Ao25 t114.length co25 : Value).ownBlock) ∧ some k_ ≠ (.slice Ao33 t123.length co33 : Value).ownBlock)) (n := t131.length) (c := co41) ?_).2.2; exact (by (with_reducible repeat (first | apply Kd.R_alloc | apply Kd.R_drewN | apply Kd.R_drew)); exact (Kd.R_mono (Kd.R_far (p := ⟨gb135, 2, none⟩) (Kd.R_far (p := ⟨gb135, 1, none⟩) (Kd.R_far (p := ⟨gb135, 0, none⟩) (Kd.R_types HO133.out BK135.out (by decide)) (fun _ hk => hk.2) (.int .i8 t127)) (fun _ hk => hk.2) (.slice Ao40 t128.length co40)) (fun _ hk => hk.2) (.slice Ao41 t131.length co41)) (fun _ h_ => h_.1)))); (case side4 => exact (Kd.R_reads' HO133.out).2.1); (case side5 => refine (Kd.R_reads' (e := 68) (base := w.heap.size) (ok := fun k_ => (((True ∧ some k_ ≠ (.slice Ao18 t104.length co18 : Value).ownBlock) ∧ some k_ ≠ (.slice Ao32 t120.length co32 : Value).ownBlock) ∧ some k_ ≠ (.slice Ao40 t128.length co40 : Value).ownBlock)) (n := t111.length) (c := co24) ?_).2.2; exact (by (with_reducible repeat (first | apply Kd.R_alloc | apply Kd.R_drewN | apply Kd.R_drew)); exact (Kd.R_mono (Kd.R_far (p := ⟨gb135, 2, none⟩) (Kd.R_far (p := ⟨gb135, 1, none⟩) (Kd.R_far (p := ⟨gb135, 0, none⟩) (Kd.R_types HO113.out BK135.out (by decide)) (fun _ hk => hk.2) (.int .i8 t127)) (fun _ hk => hk.2) (.slice Ao40 t128.length co40)) (fun _ hk => hk.2) (.slice Ao41 t131.length co41)) (fun _ h_ => h_.1)))); (case side6 => exact (Kd.R_reads' HO113.out).2.1); (case side7 => refine (Kd.R_reads' (e := 66) (base := w.heap.size) (ok := fun k_ => (((True ∧ some k_ ≠ (.slice Ao19 t107.length co19 : Value).ownBlock) ∧ some k_ ≠ (.slice Ao33 t123.length co33 : Value).ownBlock) ∧ some k_ ≠ (.slice Ao41 t131.length co41 : Value).ownBlock)) (n := t114.length) (c := co25) ?_).2.2; exact (by (with_reducible repeat (first | apply Kd.R_alloc | apply Kd.R_drewN | apply Kd.R_drew)); exact (Kd.R_mono (Kd.R_far (p := ⟨gb135, 2, none⟩) (Kd.R_far (p := ⟨gb135, 1, none⟩) (Kd.R_far (p := ⟨gb135, 0, none⟩) (Kd.R_types HO116.out BK135.out (by decide)) (fun _ hk => hk.2) (.int .i8 t127)) (fun _ hk => hk.2) (.slice Ao40 t128.length co40)) (fun _ hk => hk.2) (.slice Ao41 t131.length co41)) (fun _ h_ => h_.1)))); (case side8 => exact (Kd.R_reads' HO116.out).2.1); rintro e w51 ⟨rfl, hb⟩; refine ⟨_, rfl, ?_⟩; have n0_ := Aside0.mk (Kd.R_below (by (with_reducible repeat (first | apply Kd.R_alloc | apply Kd.R_drewN | apply Kd.R_drew)); exact (Kd.R_mono (Kd.R_far (p := ⟨gb135, 2, none⟩) (Kd.R_far (p := ⟨gb135, 1, none⟩) (Kd.R_far (p := ⟨gb135, 0, none⟩) (Kd.R_types HO106.out BK135.out (by decide)) (fun _ hk => hk.2) (.int .i8 t127)) (fun _ hk => hk.2) (.slice Ao40 t128.length co40)) (fun _ hk => hk.2) (.slice Ao41 t131.length co41)) (fun _ h_ => h_.1))) hb); have n1_ := Aside0.mk (Kd.R_below (by (with_reducible repeat (first | apply Kd.R_alloc | apply Kd.R_drewN | apply Kd.R_drew)); exact (Kd.R_mono (Kd.R_far (p := ⟨gb135, 2, none⟩) (Kd.R_far (p := ⟨gb135, 1, none⟩) (Kd.R_far (p := ⟨gb135, 0, none⟩) (Kd.R_types HO109.out BK135.out (by decide)) (fun _ hk => hk.2) (.int .i8 t127)) (fun _ hk => hk.2) (.slice Ao40 t128.length co40)) (fun _ hk => hk.2) (.slice Ao41 t131.length co41)) (fun _ h_ => h_.1))) hb); have n2_ := Aside0.mk (Kd.R_below (by (with_reducible repeat (first | apply Kd.R_alloc | apply Kd.R_drewN | apply Kd.R_drew)); exact (Kd.R_mono (Kd.R_far (p := ⟨gb135, 2, none⟩) (Kd.R_far (p := ⟨gb135, 1, none⟩) (Kd.R_far (p := ⟨gb135, 0, none⟩) (Kd.R_types HO113.out BK135.out (by decide)) (fun _ hk => hk.2) (.int .i8 t127)) (fun _ hk => hk.2) (.slice Ao40 t128.length co40)) (fun _ hk => hk.2) (.slice Ao41 t131.length co41)) (fun _ h_ => h_.1))) hb); have n3_ := Aside0.mk (Kd.R_below (by (with_reducible repeat (first | apply Kd.R_alloc | apply Kd.R_drewN | apply Kd.R_drew)); exact (Kd.R_mono (Kd.R_far (p := ⟨gb135, 2, none⟩) (Kd.R_far (p := ⟨gb135, 1, none⟩) (Kd.R_far (p := ⟨gb135, 0, none⟩) (Kd.R_types HO116.out BK135.out (by decide)) (fun _ hk => hk.2) (.int .i8 t127)) (fun _ hk => hk.2) (.slice Ao40 t128.length co40)) (fun _ hk => hk.2) (.slice Ao41 t131.length co41)) (fun _ h_ => h_.1))) hb); have n4_ := Aside0.mk (Kd.R_below (by (with_reducible repeat (first | apply Kd.R_alloc | apply Kd.R_drewN | apply Kd.R_drew)); exact (Kd.R_mono (Kd.R_far (p := ⟨gb135, 2, none⟩) (Kd.R_far (p := ⟨gb135, 1, none⟩) (Kd.R_far (p := ⟨gb135, 0, none⟩) (Kd.R_types HO122.out BK135.out (by decide)) (fun _ hk => hk.2) (.int .i8 t127)) (fun _ hk => hk.2) (.slice Ao40 t128.length co40)) (fun _ hk => hk.2) (.slice Ao41 t131.length co41)) (fun _ h_ => h_.1))) hb); have n5_ := Aside0.mk (Kd.R_below (by (with_reducible repeat (first | apply Kd.R_alloc | apply Kd.R_drewN | apply Kd.R_drew)); exact (Kd.R_mono (Kd.R_far (p := ⟨gb135, 2, none⟩) (Kd.R_far (p := ⟨gb135, 1, none⟩) (Kd.R_far (p := ⟨gb135, 0, none⟩) (Kd.R_types HO125.out BK135.out (by decide)) (fun _ hk => hk.2) (.int .i8 t127)) (fun _ hk => hk.2) (.slice Ao40 t128.length co40)) (fun _ hk => hk.2) (.slice Ao41 t131.length co41)) (fun _ h_ => h_.1))) hb); have n6_ := Aside0.mk (Kd.R_below (by (with_reducible repeat (first | apply Kd.R_alloc | apply Kd.R_drewN | apply Kd.R_drew)); exact (Kd.R_mono (Kd.R_far (p := ⟨gb135, 2, none⟩) (Kd.R_far (p := ⟨gb135, 1, none⟩) (Kd.R_far (p := ⟨gb135, 0, none⟩) (Kd.R_types HO130.out BK135.out (by decide)) (fun _ hk => hk.2) (.int .i8 t127)) (fun _ hk => hk.2) (.slice Ao40 t128.length co40)) (fun _ hk => hk.2) (.slice Ao41 t131.length co41)) (fun _ h_ => h_.1))) hb); have n7_ := Aside0.mk (Kd.R_below (by (with_reducible repeat (first | apply Kd.R_alloc | apply Kd.R_drewN | apply Kd.R_drew)); exact (Kd.R_mono (Kd.R_far (p := ⟨gb135, 2, none⟩) (Kd.R_far (p := ⟨gb135, 1, none⟩) (Kd.R_far (p := ⟨gb135, 0, none⟩) (Kd.R_types HO133.out BK135.out (by decide)) (fun _ hk => hk.2) (.int .i8 t127)) (fun _ hk => hk.2) (.slice Ao40 t128.length co40)) (fun _ hk => hk.2) (.slice Ao41 t131.length co41)) (fun _ h_ => h_.1))) hb); have n8_ := Aside0.mk (blk_below (g := gb101) (o := .cells #[.int .i8 a0_0, .slice A0_1 l0_1.length c0_1, .slice A0_2 l0_2.length c0_2] 26 (0, 0)) (by (with_reducible repeat (first | refine blk_drewN ?_ _ | refine blk_drew ?_ | refine blk_alloc ?_ _)); refine blk_far ?_ NB101_135.out _; (with_reducible repeat (first | refine blk_drewN ?_ _ | refine blk_drew ?_ | refine blk_alloc ?_ _)); refine blk_far ?_ NB101_135.out _; (with_reducible repeat (first | refine blk_drewN ?_ _ | refine blk_drew ?_ | refine blk_alloc ?_ _)); refine blk_far ?_ NB101_135.out _; (with_reducible repeat (first | refine blk_drewN ?_ _ | refine blk_drew ?_ | refine blk_alloc ?_ _)); exact BK101.out) hb); have n9_ := Aside0.mk (blk_below (g := gb118) (o := .cells #[.int .i8 t110, .slice Ao24 t111.length co24, .slice Ao25 t114.length co25] 30 (0, 0)) (by (with_reducible repeat (first | refine blk_drewN ?_ _ | refine blk_drew ?_ | refine blk_alloc ?_ _)); refine blk_far ?_ NB118_135.out _; (with_reducible repeat (first | refine blk_drewN ?_ _ | refine blk_drew ?_ | refine blk_alloc ?_ _)); refine blk_far ?_ NB118_135.out _; (with_reducible repeat (first | refine blk_drewN ?_ _ | refine blk_drew ?_ | refine blk_alloc ?_ _)); refine blk_far ?_ NB118_135.out _; (with_reducible repeat (first | refine blk_drewN ?_ _ | refine blk_drew ?_ | refine blk_alloc ?_ _)); exact BK118.out) hb); have n10_ := Aside0.mk (blk_below (g := gb126) (o := .cells #[.int .i8 t119, .slice Ao32 t120.length co32, .slice Ao33 t123.length co33] 30 (0, 0)) (by (with_reducible repeat (first | refine blk_drewN ?_ _ | refine blk_drew ?_ | refine blk_alloc ?_ _)); refine blk_far ?_ NB126_135.out _; (with_reducible repeat (first | refine blk_drewN ?_ _ | refine blk_drew ?_ | refine blk_alloc ?_ _)); refine blk_far ?_ NB126_135.out _; (with_reducible repeat (first | refine blk_drewN ?_ _ | refine blk_drew ?_ | refine blk_alloc ?_ _)); refine blk_far ?_ NB126_135.out _; (with_reducible repeat (first | refine blk_drewN ?_ _ | refine blk_drew ?_ | refine blk_alloc ?_ _)); exact BK126.out) hb); have n11_ := Aside0.mk (blk_below (g := gb135) (o := .cells #[.int .i8 t127, .slice Ao40 t128.length co40, .slice Ao41 t131.length co41] 30 (0, 0)) (by (with_reducible repeat (first | refine blk_drewN ?_ _ | refine blk_drew ?_ | refine blk_alloc ?_ _)); refine blk_put (cs := #[.int .i8 t127, .slice Ao40 t128.length co40, .slice none 0 0]) ?_ 2 _ rfl; (with_reducible repeat (first | refine blk_drewN ?_ _ | refine blk_drew ?_ | refine blk_alloc ?_ _)); refine blk_put (cs := #[.int .i8 t127, .slice none 0 0, .slice none 0 0]) ?_ 1 _ rfl; (with_reducible repeat (first | refine blk_drewN ?_ _ | refine blk_drew ?_ | refine blk_alloc ?_ _)); refine blk_put (cs := #[.int .i8 0, .slice none 0 0, .slice none 0 0]) ?_ 0 _ rfl; (with_reducible repeat (first | refine blk_drewN ?_ _ | refine blk_drew ?_ | refine blk_alloc ?_ _)); exact BK135.out) hb); have n12_ := Aside0.mk (below_step (by repeat (first | (with_reducible first | exact HB.out | apply below_alloc | apply pw_below_drewN | apply below_drew1 | refine below_set ?_ GE101.out | refine below_set ?_ GE118.out | refine below_set ?_ GE126.out | refine below_set ?_ GE135.out) | exact HB.out)) hb); clear HO106; clear HO109; clear HO113; clear HO116; clear HO122; clear HO125; clear HO130; clear HO133; clear BK101; clear BK118; clear BK126; clear BK135; clear HB; have HO106 := n0_; have HO109 := n1_; have HO113 := n2_; have HO116 := n3_; have HO122 := n4_; have HO125 := n5_; have HO130 := n6_; have HO133 := n7_; have BK101 := n8_; have BK118 := n9_; have BK126 := n10_; have BK135 := n11_; have HB := n12_; clear n0_ n1_ n2_ n3_ n4_ n5_ n6_ n7_ n8_ n9_ n10_ n11_ n12_; (try clear hb); (try clear hb2); (try clear hk); (try clear hi)))
        go_meet
        case rel => exact ⟨_, ((t134 != t117)), (by first | rfl | (simp; done) | (simp [*]; done)), H', ⟨by first | omega | exact Nat.le_refl _⟩, ⟨by (with_reducible repeat (first | apply Kd.R_alloc | apply Kd.R_drewN | apply Kd.R_drew)); exact Kd.R_mono HO113.out (fun _ hk => ⟨hk.1.2, hk.2⟩)⟩, ⟨by (with_reducible repeat (first | apply Kd.R_alloc | apply Kd.R_drewN | apply Kd.R_drew)); exact Kd.R_mono HO116.out (fun _ hk => ⟨hk.1.2, hk.2⟩)⟩, ⟨by (with_reducible repeat (first | apply Kd.R_alloc | apply Kd.R_drewN | apply Kd.R_drew)); exact Kd.R_mono HO122.out (fun _ hk => ⟨hk.1.2, hk.2⟩)⟩, ⟨by (with_reducible repeat (first | apply Kd.R_alloc | apply Kd.R_drewN | apply Kd.R_drew)); exact Kd.R_mono HO125.out (fun _ hk => ⟨hk.1.2, hk.2⟩)⟩, ⟨by (with_reducible repeat (first | apply Kd.R_alloc | apply Kd.R_drewN | apply Kd.R_drew)); exact Kd.R_mono HO130.out (fun _ hk => ⟨hk.1.2, hk.2⟩)⟩, ⟨by (with_reducible repeat (first | apply Kd.R_alloc | apply Kd.R_drewN | apply Kd.R_drew)); exact Kd.R_mono HO133.out (fun _ hk => ⟨hk.1.2, hk.2⟩)⟩, ⟨by (with_reducible repeat (first | refine blk_drewN ?_ _ | refine blk_drew ?_ | refine blk_alloc ?_ _)); exact BK101.out⟩, ⟨by (with_reducible repeat (first | refine blk_drewN ?_ _ | refine blk_drew ?_ | refine blk_alloc ?_ _)); exact BK118.out⟩, ⟨by (with_reducible repeat (first | refine blk_drewN ?_ _ | refine blk_drew ?_ | refine blk_alloc ?_ _)); exact BK126.out⟩, ⟨by (with_reducible repeat (first | refine blk_drewN ?_ _ | refine blk_drew ?_ | refine blk_alloc ?_ _)); exact BK135.out⟩, ⟨by repeat (first | (with_reducible first | exact HB.out | apply below_alloc | apply pw_below_drewN | apply below_drew1 | refine below_set ?_ GE101.out | refine below_set ?_ GE118.out | refine below_set ?_ GE126.out | refine below_set ?_ GE135.out) | exact HB.out)⟩⟩
      · replace c43 := Bool.eq_false_iff.mpr c43
        subst c43
        have H1 : (laws_FnExactFlipGate.j0 k a1 t117 t134 true a0_0 l0_1 l0_2 t110 t111 t114 t119 t120 t123 t127 t128 t131) = some r := by rw [if_neg (show ¬ (false = true) by decide)] at H; exact H
        clear H
        have H := H1
        clear H1
        have H' := Aside0.mk H
        clear H
        have hnb52 := NB135_101.out
        have hnc52 := NB101_135.out
        have hnb53 := NB135_118.out
        have hnc53 := NB118_135.out
        have hnb54 := NB135_126.out
        have hnc54 := NB126_135.out
        have hcz55_0 : w35.cell? ⟨gb135, 0, none⟩ = some (.int .i8 0) := (blk_cell BK135.out 0).trans rfl
        have hcz55_1 : w35.cell? ⟨gb135, 1, none⟩ = some (.slice none 0 0) := (blk_cell BK135.out 1).trans rfl
        have hcz55_2 : w35.cell? ⟨gb135, 2, none⟩ = some (.slice none 0 0) := (blk_cell BK135.out 2).trans rfl
        have hfz55_0 := blk_frozen BK135.out 0
        have hfz55_1 := blk_frozen BK135.out 1
        have hfz55_2 := blk_frozen BK135.out 2
        have hnb56 := NB118_101.out
        have hnc56 := NB101_118.out
        have hnb57 := NB118_126.out
        have hnc57 := NB126_118.out
        have hcz58_0 : w35.cell? ⟨gb118, 0, none⟩ = some (.int .i8 t110) := (blk_cell BK118.out 0).trans rfl
        have hcz58_1 : w35.cell? ⟨gb118, 1, none⟩ = some (.slice Ao24 t111.length co24) := (blk_cell BK118.out 1).trans rfl
        have hcz58_2 : w35.cell? ⟨gb118, 2, none⟩ = some (.slice Ao25 t114.length co25) := (blk_cell BK118.out 2).trans rfl
        have hfz58_0 := blk_frozen BK118.out 0
        have hfz58_1 := blk_frozen BK118.out 1
        have hfz58_2 := blk_frozen BK118.out 2
        go_wp2_with (first | ((with_reducible refine gate_callee (f := 13) rfl ?_); refine goesL_ (some 38) rfl rfl Try.func13 (by kernel_rfl) rfl #[.agg #[.int .i8 t127, .slice Ao40 t128.length co40, .slice Ao41 t131.length co41], .agg #[.int .i8 t110, .slice Ao24 t111.length co24, .slice Ao25 t114.length co25]] rfl (by (try simp only [List.map_toArray, List.map_cons, List.map_nil]); first | done | rfl | (simp only [List.length_drop, List.length_take]; rfl)) ?_; (with_reducible refine (laws_eqCircuit.calls k t127 _ _ t128 _ _ t131 t110 _ _ t111 _ _ t114 false _ ?side1 ?side2 ?side3 ?side4 ?side5 ?side6 ?side7 ?side8 A42.out).mono ?_); (case side1 => refine (Kd.R_reads' (e := 68) (base := w.heap.size) (ok := fun k_ => (((True ∧ some k_ ≠ (.slice Ao18 t104.length co18 : Value).ownBlock) ∧ some k_ ≠ (.slice Ao24 t111.length co24 : Value).ownBlock) ∧ some k_ ≠ (.slice Ao32 t120.length co32 : Value).ownBlock)) (n := t128.length) (c := co40) ?_).2.2; exact (by (with_reducible repeat (first | apply Kd.R_alloc | apply Kd.R_drewN | apply Kd.R_drew)); exact (Kd.R_mono (Kd.R_far (p := ⟨gb135, 2, none⟩) (Kd.R_far (p := ⟨gb135, 1, none⟩) (Kd.R_far (p := ⟨gb135, 0, none⟩) (Kd.R_types HO130.out BK135.out (by decide)) (fun _ hk => hk.2) (.int .i8 t127)) (fun _ hk => hk.2) (.slice Ao40 t128.length co40)) (fun _ hk => hk.2) (.slice Ao41 t131.length co41)) (fun _ h_ => h_.1)))); (case side2 => exact (Kd.R_reads' HO130.out).2.1); (case side3 => refine (Kd.R_reads' (e := 66) (base := w.heap.size) (ok := fun k_ => (((True ∧ some k_ ≠ (.slice Ao19 t107.length co19 : Value).ownBlock) ∧ some k_ ≠ (.slice Ao25 t114.length co25 : Value).ownBlock) ∧ some k_ ≠ (.slice Ao33 t123.length co33 : Value).ownBlock)) (n := t131.length) (c := co41) ?_).2.2; exact (by (with_reducible repeat (first | apply Kd.R_alloc | apply Kd.R_drewN | apply Kd.R_drew)); exact (Kd.R_mono (Kd.R_far (p := ⟨gb135, 2, none⟩) (Kd.R_far (p := ⟨gb135, 1, none⟩) (Kd.R_far (p := ⟨gb135, 0, none⟩) (Kd.R_types HO133.out BK135.out (by decide)) (fun _ hk => hk.2) (.int .i8 t127)) (fun _ hk => hk.2) (.slice Ao40 t128.length co40)) (fun _ hk => hk.2) (.slice Ao41 t131.length co41)) (fun _ h_ => h_.1)))); (case side4 => exact (Kd.R_reads' HO133.out).2.1); (case side5 => refine (Kd.R_reads' (e := 68) (base := w.heap.size) (ok := fun k_ => (((True ∧ some k_ ≠ (.slice Ao18 t104.length co18 : Value).ownBlock) ∧ some k_ ≠ (.slice Ao32 t120.length co32 : Value).ownBlock) ∧ some k_ ≠ (.slice Ao40 t128.length co40 : Value).ownBlock)) (n := t111.length) (c := co24) ?_).2.2; exact (by (with_reducible repeat (first | apply Kd.R_alloc | apply Kd.R_drewN | apply Kd.R_drew)); exact (Kd.R_mono (Kd.R_far (p := ⟨gb135, 2, none⟩) (Kd.R_far (p := ⟨gb135, 1, none⟩) (Kd.R_far (p := ⟨gb135, 0, none⟩) (Kd.R_types HO113.out BK135.out (by decide)) (fun _ hk => hk.2) (.int .i8 t127)) (fun _ hk => hk.2) (.slice Ao40 t128.length co40)) (fun _ hk => hk.2) (.slice Ao41 t131.length co41)) (fun _ h_ => h_.1)))); (case side6 => exact (Kd.R_reads' HO113.out).2.1); (case side7 => refine (Kd.R_reads' (e := 66) (base := w.heap.size) (ok := fun k_ => (((True ∧ some k_ ≠ (.slice Ao19 t107.length co19 : Value).ownBlock) ∧ some k_ ≠ (.slice Ao33 t123.length co33 : Value).ownBlock) ∧ some k_ ≠ (.slice Ao41 t131.length co41 : Value).ownBlock)) (n := t114.length) (c := co25) ?_).2.2; exact (by (with_reducible repeat (first | apply Kd.R_alloc | apply Kd.R_drewN | apply Kd.R_drew)); exact (Kd.R_mono (Kd.R_far (p := ⟨gb135, 2, none⟩) (Kd.R_far (p := ⟨gb135, 1, none⟩) (Kd.R_far (p := ⟨gb135, 0, none⟩) (Kd.R_types HO116.out BK135.out (by decide)) (fun _ hk => hk.2) (.int .i8 t127)) (fun _ hk => hk.2) (.slice Ao40 t128.length co40)) (fun _ hk => hk.2) (.slice Ao41 t131.length co41)) (fun _ h_ => h_.1)))); (case side8 => exact (Kd.R_reads' HO116.out).2.1); rintro e w59 ⟨rfl, hb⟩; refine ⟨_, rfl, ?_⟩; have n0_ := Aside0.mk (Kd.R_below (by (with_reducible repeat (first | apply Kd.R_alloc | apply Kd.R_drewN | apply Kd.R_drew)); exact (Kd.R_mono (Kd.R_far (p := ⟨gb135, 2, none⟩) (Kd.R_far (p := ⟨gb135, 1, none⟩) (Kd.R_far (p := ⟨gb135, 0, none⟩) (Kd.R_types HO106.out BK135.out (by decide)) (fun _ hk => hk.2) (.int .i8 t127)) (fun _ hk => hk.2) (.slice Ao40 t128.length co40)) (fun _ hk => hk.2) (.slice Ao41 t131.length co41)) (fun _ h_ => h_.1))) hb); have n1_ := Aside0.mk (Kd.R_below (by (with_reducible repeat (first | apply Kd.R_alloc | apply Kd.R_drewN | apply Kd.R_drew)); exact (Kd.R_mono (Kd.R_far (p := ⟨gb135, 2, none⟩) (Kd.R_far (p := ⟨gb135, 1, none⟩) (Kd.R_far (p := ⟨gb135, 0, none⟩) (Kd.R_types HO109.out BK135.out (by decide)) (fun _ hk => hk.2) (.int .i8 t127)) (fun _ hk => hk.2) (.slice Ao40 t128.length co40)) (fun _ hk => hk.2) (.slice Ao41 t131.length co41)) (fun _ h_ => h_.1))) hb); have n2_ := Aside0.mk (Kd.R_below (by (with_reducible repeat (first | apply Kd.R_alloc | apply Kd.R_drewN | apply Kd.R_drew)); exact (Kd.R_mono (Kd.R_far (p := ⟨gb135, 2, none⟩) (Kd.R_far (p := ⟨gb135, 1, none⟩) (Kd.R_far (p := ⟨gb135, 0, none⟩) (Kd.R_types HO113.out BK135.out (by decide)) (fun _ hk => hk.2) (.int .i8 t127)) (fun _ hk => hk.2) (.slice Ao40 t128.length co40)) (fun _ hk => hk.2) (.slice Ao41 t131.length co41)) (fun _ h_ => h_.1))) hb); have n3_ := Aside0.mk (Kd.R_below (by (with_reducible repeat (first | apply Kd.R_alloc | apply Kd.R_drewN | apply Kd.R_drew)); exact (Kd.R_mono (Kd.R_far (p := ⟨gb135, 2, none⟩) (Kd.R_far (p := ⟨gb135, 1, none⟩) (Kd.R_far (p := ⟨gb135, 0, none⟩) (Kd.R_types HO116.out BK135.out (by decide)) (fun _ hk => hk.2) (.int .i8 t127)) (fun _ hk => hk.2) (.slice Ao40 t128.length co40)) (fun _ hk => hk.2) (.slice Ao41 t131.length co41)) (fun _ h_ => h_.1))) hb); have n4_ := Aside0.mk (Kd.R_below (by (with_reducible repeat (first | apply Kd.R_alloc | apply Kd.R_drewN | apply Kd.R_drew)); exact (Kd.R_mono (Kd.R_far (p := ⟨gb135, 2, none⟩) (Kd.R_far (p := ⟨gb135, 1, none⟩) (Kd.R_far (p := ⟨gb135, 0, none⟩) (Kd.R_types HO122.out BK135.out (by decide)) (fun _ hk => hk.2) (.int .i8 t127)) (fun _ hk => hk.2) (.slice Ao40 t128.length co40)) (fun _ hk => hk.2) (.slice Ao41 t131.length co41)) (fun _ h_ => h_.1))) hb); have n5_ := Aside0.mk (Kd.R_below (by (with_reducible repeat (first | apply Kd.R_alloc | apply Kd.R_drewN | apply Kd.R_drew)); exact (Kd.R_mono (Kd.R_far (p := ⟨gb135, 2, none⟩) (Kd.R_far (p := ⟨gb135, 1, none⟩) (Kd.R_far (p := ⟨gb135, 0, none⟩) (Kd.R_types HO125.out BK135.out (by decide)) (fun _ hk => hk.2) (.int .i8 t127)) (fun _ hk => hk.2) (.slice Ao40 t128.length co40)) (fun _ hk => hk.2) (.slice Ao41 t131.length co41)) (fun _ h_ => h_.1))) hb); have n6_ := Aside0.mk (Kd.R_below (by (with_reducible repeat (first | apply Kd.R_alloc | apply Kd.R_drewN | apply Kd.R_drew)); exact (Kd.R_mono (Kd.R_far (p := ⟨gb135, 2, none⟩) (Kd.R_far (p := ⟨gb135, 1, none⟩) (Kd.R_far (p := ⟨gb135, 0, none⟩) (Kd.R_types HO130.out BK135.out (by decide)) (fun _ hk => hk.2) (.int .i8 t127)) (fun _ hk => hk.2) (.slice Ao40 t128.length co40)) (fun _ hk => hk.2) (.slice Ao41 t131.length co41)) (fun _ h_ => h_.1))) hb); have n7_ := Aside0.mk (Kd.R_below (by (with_reducible repeat (first | apply Kd.R_alloc | apply Kd.R_drewN | apply Kd.R_drew)); exact (Kd.R_mono (Kd.R_far (p := ⟨gb135, 2, none⟩) (Kd.R_far (p := ⟨gb135, 1, none⟩) (Kd.R_far (p := ⟨gb135, 0, none⟩) (Kd.R_types HO133.out BK135.out (by decide)) (fun _ hk => hk.2) (.int .i8 t127)) (fun _ hk => hk.2) (.slice Ao40 t128.length co40)) (fun _ hk => hk.2) (.slice Ao41 t131.length co41)) (fun _ h_ => h_.1))) hb); have n8_ := Aside0.mk (blk_below (g := gb101) (o := .cells #[.int .i8 a0_0, .slice A0_1 l0_1.length c0_1, .slice A0_2 l0_2.length c0_2] 26 (0, 0)) (by (with_reducible repeat (first | refine blk_drewN ?_ _ | refine blk_drew ?_ | refine blk_alloc ?_ _)); refine blk_far ?_ NB101_135.out _; (with_reducible repeat (first | refine blk_drewN ?_ _ | refine blk_drew ?_ | refine blk_alloc ?_ _)); refine blk_far ?_ NB101_135.out _; (with_reducible repeat (first | refine blk_drewN ?_ _ | refine blk_drew ?_ | refine blk_alloc ?_ _)); refine blk_far ?_ NB101_135.out _; (with_reducible repeat (first | refine blk_drewN ?_ _ | refine blk_drew ?_ | refine blk_alloc ?_ _)); exact BK101.out) hb); have n9_ := Aside0.mk (blk_below (g := gb118) (o := .cells #[.int .i8 t110, .slice Ao24 t111.length co24, .slice Ao25 t114.length co25] 30 (0, 0)) (by (with_reducible repeat (first | refine blk_drewN ?_ _ | refine blk_drew ?_ | refine blk_alloc ?_ _)); refine blk_far ?_ NB118_135.out _; (with_reducible repeat (first | refine blk_drewN ?_ _ | refine blk_drew ?_ | refine blk_alloc ?_ _)); refine blk_far ?_ NB118_135.out _; (with_reducible repeat (first | refine blk_drewN ?_ _ | refine blk_drew ?_ | refine blk_alloc ?_ _)); refine blk_far ?_ NB118_135.out _; (with_reducible repeat (first | refine blk_drewN ?_ _ | refine blk_drew ?_ | refine blk_alloc ?_ _)); exact BK118.out) hb); have n10_ := Aside0.mk (blk_below (g := gb126) (o := .cells #[.int .i8 t119, .slice Ao32 t120.length co32, .slice Ao33 t123.length co33] 30 (0, 0)) (by (with_reducible repeat (first | refine blk_drewN ?_ _ | refine blk_drew ?_ | refine blk_alloc ?_ _)); refine blk_far ?_ NB126_135.out _; (with_reducible repeat (first | refine blk_drewN ?_ _ | refine blk_drew ?_ | refine blk_alloc ?_ _)); refine blk_far ?_ NB126_135.out _; (with_reducible repeat (first | refine blk_drewN ?_ _ | refine blk_drew ?_ | refine blk_alloc ?_ _)); refine blk_far ?_ NB126_135.out _; (with_reducible repeat (first | refine blk_drewN ?_ _ | refine blk_drew ?_ | refine blk_alloc ?_ _)); exact BK126.out) hb); have n11_ := Aside0.mk (blk_below (g := gb135) (o := .cells #[.int .i8 t127, .slice Ao40 t128.length co40, .slice Ao41 t131.length co41] 30 (0, 0)) (by (with_reducible repeat (first | refine blk_drewN ?_ _ | refine blk_drew ?_ | refine blk_alloc ?_ _)); refine blk_put (cs := #[.int .i8 t127, .slice Ao40 t128.length co40, .slice none 0 0]) ?_ 2 _ rfl; (with_reducible repeat (first | refine blk_drewN ?_ _ | refine blk_drew ?_ | refine blk_alloc ?_ _)); refine blk_put (cs := #[.int .i8 t127, .slice none 0 0, .slice none 0 0]) ?_ 1 _ rfl; (with_reducible repeat (first | refine blk_drewN ?_ _ | refine blk_drew ?_ | refine blk_alloc ?_ _)); refine blk_put (cs := #[.int .i8 0, .slice none 0 0, .slice none 0 0]) ?_ 0 _ rfl; (with_reducible repeat (first | refine blk_drewN ?_ _ | refine blk_drew ?_ | refine blk_alloc ?_ _)); exact BK135.out) hb); have n12_ := Aside0.mk (below_step (by repeat (first | (with_reducible first | exact HB.out | apply below_alloc | apply pw_below_drewN | apply below_drew1 | refine below_set ?_ GE101.out | refine below_set ?_ GE118.out | refine below_set ?_ GE126.out | refine below_set ?_ GE135.out) | exact HB.out)) hb); clear HO106; clear HO109; clear HO113; clear HO116; clear HO122; clear HO125; clear HO130; clear HO133; clear BK101; clear BK118; clear BK126; clear BK135; clear HB; have HO106 := n0_; have HO109 := n1_; have HO113 := n2_; have HO116 := n3_; have HO122 := n4_; have HO125 := n5_; have HO130 := n6_; have HO133 := n7_; have BK101 := n8_; have BK118 := n9_; have BK126 := n10_; have BK135 := n11_; have HB := n12_; clear n0_ n1_ n2_ n3_ n4_ n5_ n6_ n7_ n8_ n9_ n10_ n11_ n12_; (try clear hb); (try clear hb2); (try clear hk); (try clear hi)))
        go_meet
        case rel => exact ⟨_, (true), (by first | rfl | (simp; done) | (simp [*]; done)), H', ⟨by first | omega | exact Nat.le_refl _⟩, ⟨by (with_reducible repeat (first | apply Kd.R_alloc | apply Kd.R_drewN | apply Kd.R_drew)); exact Kd.R_mono HO113.out (fun _ hk => ⟨hk.1.2, hk.2⟩)⟩, ⟨by (with_reducible repeat (first | apply Kd.R_alloc | apply Kd.R_drewN | apply Kd.R_drew)); exact Kd.R_mono HO116.out (fun _ hk => ⟨hk.1.2, hk.2⟩)⟩, ⟨by (with_reducible repeat (first | apply Kd.R_alloc | apply Kd.R_drewN | apply Kd.R_drew)); exact Kd.R_mono HO122.out (fun _ hk => ⟨hk.1.2, hk.2⟩)⟩, ⟨by (with_reducible repeat (first | apply Kd.R_alloc | apply Kd.R_drewN | apply Kd.R_drew)); exact Kd.R_mono HO125.out (fun _ hk => ⟨hk.1.2, hk.2⟩)⟩, ⟨by (with_reducible repeat (first | apply Kd.R_alloc | apply Kd.R_drewN | apply Kd.R_drew)); exact Kd.R_mono HO130.out (fun _ hk => ⟨hk.1.2, hk.2⟩)⟩, ⟨by (with_reducible repeat (first | apply Kd.R_alloc | apply Kd.R_drewN | apply Kd.R_drew)); exact Kd.R_mono HO133.out (fun _ hk => ⟨hk.1.2, hk.2⟩)⟩, ⟨by (with_reducible repeat (first | refine blk_drewN ?_ _ | refine blk_drew ?_ | refine blk_alloc ?_ _)); exact BK101.out⟩, ⟨by (with_reducible repeat (first | refine blk_drewN ?_ _ | refine blk_drew ?_ | refine blk_alloc ?_ _)); exact BK118.out⟩, ⟨by (with_reducible repeat (first | refine blk_drewN ?_ _ | refine blk_drew ?_ | refine blk_alloc ?_ _)); exact BK126.out⟩, ⟨by (with_reducible repeat (first | refine blk_drewN ?_ _ | refine blk_drew ?_ | refine blk_alloc ?_ _)); exact BK135.out⟩, ⟨by repeat (first | (with_reducible first | exact HB.out | apply below_alloc | apply pw_below_drewN | apply below_drew1 | refine below_set ?_ GE101.out | refine below_set ?_ GE118.out | refine below_set ?_ GE126.out | refine below_set ?_ GE135.out) | exact HB.out)⟩⟩
    case rest =>
      clear HC12
      try clear c1
      try clear c2
      try clear p2
      try clear c3
      try clear c4
      try clear c4b0
      try clear c5
      try clear c9
      try clear c10
      try clear c11
      try clear c12
      try clear c13
      try clear c22
      try clear c29
      try clear c30
      try clear c36
      try clear c37
      try clear c38
      try clear c43
      try clear c44
      try clear c45
      try clear c46
      try clear c48
      try clear c49
      try clear c52
      try clear c53
      try clear c54
      try clear c56
      try clear c57
      try clear hcz14_0
      try clear hcz14_1
      try clear hcz14_2
      try clear hcz16_0
      try clear hcz16_1
      try clear hcz16_2
      try clear hcz23_0
      try clear hcz23_1
      try clear hcz23_2
      try clear hcz26_0
      try clear hcz26_1
      try clear hcz26_2
      try clear hcz31_0
      try clear hcz31_1
      try clear hcz31_2
      try clear hcz39_0
      try clear hcz39_1
      try clear hcz39_2
      try clear hcz47_0
      try clear hcz47_1
      try clear hcz47_2
      try clear hcz50_0
      try clear hcz50_1
      try clear hcz50_2
      try clear hcz55_0
      try clear hcz55_1
      try clear hcz55_2
      try clear hcz58_0
      try clear hcz58_1
      try clear hcz58_2
      try clear hcz6_0
      try clear hcz6_1
      try clear hcz6_2
      try clear hfz14_0
      try clear hfz14_1
      try clear hfz14_2
      try clear hfz16_0
      try clear hfz16_1
      try clear hfz16_2
      try clear hfz23_0
      try clear hfz23_1
      try clear hfz23_2
      try clear hfz26_0
      try clear hfz26_1
      try clear hfz26_2
      try clear hfz31_0
      try clear hfz31_1
      try clear hfz31_2
      try clear hfz39_0
      try clear hfz39_1
      try clear hfz39_2
      try clear hfz47_0
      try clear hfz47_1
      try clear hfz47_2
      try clear hfz50_0
      try clear hfz50_1
      try clear hfz50_2
      try clear hfz55_0
      try clear hfz55_1
      try clear hfz55_2
      try clear hfz58_0
      try clear hfz58_1
      try clear hfz58_2
      try clear hfz6_0
      try clear hfz6_1
      try clear hfz6_2
      obtain ⟨kq, x44_11, rfl, HA, HJ11, HO_119001, HO_119002, HO_127001, HO_127002, HO_136001, HO_136002, BK101, BK118, BK126, BK135, HB⟩ := hcut
      cases kq with
      | zero => exact absurd HA.out (by simp [laws_FnExactFlipGate.j0])
      | succ kj11 =>
        have H := HA.out
        clear HA
        simp only [laws_FnExactFlipGate.j0] at H
        by_cases c60 : x44_11 = true
        · subst c60
          have H1 : (none) = some r := by rw [if_pos rfl] at H; exact H
          clear H
          have H := H1
          clear H1
          exact absurd H (by simp)
        · replace c60 := Bool.eq_false_iff.mpr c60
          subst c60
          have H1 : ((laws_toCircuit.f kj11 a0_0 l0_1 l0_2).bind fun bt137 => ((laws_eqCircuit.f kj11 t119 t120 t123 bt137.1 bt137.2.1 bt137.2.2).bind fun t144 => (if t144 = true then ((laws_markCircuit.f kj11 t119 t120 t123 1).bind fun bt145 => (if bt145.1 < 0 then (laws_FnExactFlipGate.j1 kj11 a1 t117 true a0_0 l0_1 l0_2 t110 t111 t114 t127 t128 t131) else ((laws_eqCircuit.f kj11 t127 t128 t131 t110 t111 t114).bind fun t148 => (if t148 = true then (laws_FnExactFlipGate.j1 kj11 a1 t117 (t134 != t117) a0_0 l0_1 l0_2 t110 t111 t114 t127 t128 t131) else (laws_FnExactFlipGate.j1 kj11 a1 t117 true a0_0 l0_1 l0_2 t110 t111 t114 t127 t128 t131))))) else (none)))) = some r := by rw [if_neg (show ¬ (false = true) by decide)] at H; exact H
          clear H
          have H := H1
          clear H1
          replace H := Option.bind_eq_some_iff.mp H
          obtain ⟨⟨t137, t138, t141⟩, A610, H⟩ := H
          replace H : ((laws_eqCircuit.f kj11 t119 t120 t123 t137 t138 t141).bind fun t144 => (if t144 = true then ((laws_markCircuit.f kj11 t119 t120 t123 1).bind fun bt145 => (if bt145.1 < 0 then (laws_FnExactFlipGate.j1 kj11 a1 t117 true a0_0 l0_1 l0_2 t110 t111 t114 t127 t128 t131) else ((laws_eqCircuit.f kj11 t127 t128 t131 t110 t111 t114).bind fun t148 => (if t148 = true then (laws_FnExactFlipGate.j1 kj11 a1 t117 (t134 != t117) a0_0 l0_1 l0_2 t110 t111 t114 t127 t128 t131) else (laws_FnExactFlipGate.j1 kj11 a1 t117 true a0_0 l0_1 l0_2 t110 t111 t114 t127 t128 t131))))) else (none))) = some r := H
          have A61 := Aside0.mk A610
          clear A610
          replace H := Option.bind_eq_some_iff.mp H
          obtain ⟨t144, A620, H⟩ := H
          replace H : (if t144 = true then ((laws_markCircuit.f kj11 t119 t120 t123 1).bind fun bt145 => (if bt145.1 < 0 then (laws_FnExactFlipGate.j1 kj11 a1 t117 true a0_0 l0_1 l0_2 t110 t111 t114 t127 t128 t131) else ((laws_eqCircuit.f kj11 t127 t128 t131 t110 t111 t114).bind fun t148 => (if t148 = true then (laws_FnExactFlipGate.j1 kj11 a1 t117 (t134 != t117) a0_0 l0_1 l0_2 t110 t111 t114 t127 t128 t131) else (laws_FnExactFlipGate.j1 kj11 a1 t117 true a0_0 l0_1 l0_2 t110 t111 t114 t127 t128 t131))))) else (none)) = some r := H
          have A62 := Aside0.mk A620
          clear A620
          by_cases c63 : t144 = true
          · subst c63
            have H1 : ((laws_markCircuit.f kj11 t119 t120 t123 1).bind fun bt145 => (if bt145.1 < 0 then (laws_FnExactFlipGate.j1 kj11 a1 t117 true a0_0 l0_1 l0_2 t110 t111 t114 t127 t128 t131) else ((laws_eqCircuit.f kj11 t127 t128 t131 t110 t111 t114).bind fun t148 => (if t148 = true then (laws_FnExactFlipGate.j1 kj11 a1 t117 (t134 != t117) a0_0 l0_1 l0_2 t110 t111 t114 t127 t128 t131) else (laws_FnExactFlipGate.j1 kj11 a1 t117 true a0_0 l0_1 l0_2 t110 t111 t114 t127 t128 t131))))) = some r := by rw [if_pos rfl] at H; exact H
            clear H
            have H := H1
            clear H1
            replace H := Option.bind_eq_some_iff.mp H
            obtain ⟨⟨t145, t146, t147⟩, A640, H⟩ := H
            replace H : (if t145 < 0 then (laws_FnExactFlipGate.j1 kj11 a1 t117 true a0_0 l0_1 l0_2 t110 t111 t114 t127 t128 t131) else ((laws_eqCircuit.f kj11 t127 t128 t131 t110 t111 t114).bind fun t148 => (if t148 = true then (laws_FnExactFlipGate.j1 kj11 a1 t117 (t134 != t117) a0_0 l0_1 l0_2 t110 t111 t114 t127 t128 t131) else (laws_FnExactFlipGate.j1 kj11 a1 t117 true a0_0 l0_1 l0_2 t110 t111 t114 t127 t128 t131)))) = some r := H
            have A64 := Aside0.mk A640
            clear A640
            have HC65 := Aside0.mk H
            clear H
            try go_wp2
            have n0_ := Aside0.mk (Kd.R_drew HO_119001.out)
            have n1_ := Aside0.mk (Kd.R_drew HO_119002.out)
            have n2_ := Aside0.mk (Kd.R_drew HO_127001.out)
            have n3_ := Aside0.mk (Kd.R_drew HO_127002.out)
            have n4_ := Aside0.mk (Kd.R_drew HO_136001.out)
            have n5_ := Aside0.mk (Kd.R_drew HO_136002.out)
            have n6_ := Aside0.mk (blk_drew BK101.out)
            have n7_ := Aside0.mk (blk_drew BK118.out)
            have n8_ := Aside0.mk (blk_drew BK126.out)
            have n9_ := Aside0.mk (blk_drew BK135.out)
            have n10_ := Aside0.mk (below_drew1 HB.out)
            clear HO_119001
            clear HO_119002
            clear HO_127001
            clear HO_127002
            clear HO_136001
            clear HO_136002
            clear BK101
            clear BK118
            clear BK126
            clear BK135
            clear HB
            have HO_119001 := n0_
            have HO_119002 := n1_
            have HO_127001 := n2_
            have HO_127002 := n3_
            have HO_136001 := n4_
            have HO_136002 := n5_
            have BK101 := n6_
            have BK118 := n7_
            have BK126 := n8_
            have BK135 := n9_
            have HB := n10_
            clear n0_ n1_ n2_ n3_ n4_ n5_ n6_ n7_ n8_ n9_ n10_
            refine start_ (n := 5) (S := fun w' => w'.cell? ⟨gb126, 0, none⟩ = some (.int .i8 t119) ∧ w'.cell? ⟨gb126, 1, none⟩ = some (.slice Ao32 t120.length co32) ∧ w'.cell? ⟨gb126, 2, none⟩ = some (.slice Ao33 t123.length co33) ∧ w'.cell? ⟨gb101, 0, none⟩ = some (.int .i8 a0_0) ∧ w'.cell? ⟨gb101, 1, none⟩ = some (.slice A0_1 l0_1.length c0_1) ∧ w'.cell? ⟨gb101, 2, none⟩ = some (.slice A0_2 l0_2.length c0_2)) (ds := []) #[false, false, false, false, false] (by kernel_rfl) rfl rfl ⟨(blk_cell BK126.out 0).trans rfl, (blk_cell BK126.out 1).trans rfl, (blk_cell BK126.out 2).trans rfl, (blk_cell BK101.out 0).trans rfl, (blk_cell BK101.out 1).trans rfl, (blk_cell BK101.out 2).trans rfl⟩ (fun hHeld => ?_)
            generalize wc.drew = w66 at HO_119001 HO_119002 HO_127001 HO_127002 HO_136001 HO_136002 BK101 BK118 BK126 BK135 HB hHeld ⊢
            refine take_ (i := 0) (N := some 45) (v := ?_) (a' := ?_) #[true, false, false, false, false] rfl rfl (by kernel_rfl) (fun _ _ _ h => h) (Or.inl ⟨by rfl, ?_⟩) hHeld ?_ ?_
            rotate_left
            · rintro w' ⟨s0, s1, s2, s3, s4, s5⟩
              go_simp
              with_reducible rfl
            rotate_left
            · simp only [Act.put, List.setIfInBounds_toArray, List.set_cons_zero, List.set_cons_succ, i64_w, i32_w]
              rfl
            refine take_ (i := 1) (N := some 46) (v := ?_) (a' := ?_) #[true, true, false, false, false] rfl rfl (by kernel_rfl) (fun _ _ _ h => h) (Or.inl ⟨by rfl, ?_⟩) hHeld ?_ ?_
            rotate_left
            · rintro w' ⟨s0, s1, s2, s3, s4, s5⟩
              go_simp
              with_reducible rfl
            rotate_left
            · simp only [Act.put, List.setIfInBounds_toArray, List.set_cons_zero, List.set_cons_succ, i64_w, i32_w]
              rfl
            refine one_ (i := 2) (N := some 47) #[true, true, true, false, false] rfl rfl (by kernel_rfl) (by decide) (fun K hK => ?_)
            refine goes_ Try.func11 (by kernel_rfl) rfl #[.agg #[.int .i8 a0_0, .slice A0_1 l0_1.length c0_1, .slice A0_2 l0_2.length c0_2]] (by rfl) rfl rfl (by (try simp only [List.map_toArray, List.map_cons, List.map_nil]); first | done | rfl | (simp only [List.length_drop, List.length_take]; rfl)) ?_
            with_reducible refine (laws_toCircuit.calls kj11 a0_0 _ _ l0_1 _ _ l0_2 t137 t138 t141 _ ?side1 ?side2 ?side3 ?side4 A61.out).mono ?_
            (case side1 => repeat (first | exact (Kd.C_below HR0_1.out HB.out) | (with_reducible refine Kd.C_alloc ?_ _) | (with_reducible refine Kd.C_drewN ?_ _) | (with_reducible refine Kd.C_drew ?_)))
            (case side2 => exact HC0_1.out)
            (case side3 => repeat (first | exact (Kd.C_below HR0_2.out HB.out) | (with_reducible refine Kd.C_alloc ?_ _) | (with_reducible refine Kd.C_drewN ?_ _) | (with_reducible refine Kd.C_drew ?_)))
            (case side4 => exact HC0_2.out)
            rintro e w67 ⟨v139, v142, rfl, ho0, ho1, hb⟩
            refine ⟨_, rfl, ?_⟩
            have n0_ := Aside0.mk (Kd.R_elder' (by (with_reducible repeat (first | apply Kd.R_alloc | apply Kd.R_drewN | apply Kd.R_drew)); exact HO_119001.out) (Kd.R_base ho0) hb)
            have n1_ := Aside0.mk (Kd.R_elder' (by (with_reducible repeat (first | apply Kd.R_alloc | apply Kd.R_drewN | apply Kd.R_drew)); exact HO_119002.out) (Kd.R_base ho1) hb)
            have n2_ := Aside0.mk (Kd.R_elder' (by (with_reducible repeat (first | apply Kd.R_alloc | apply Kd.R_drewN | apply Kd.R_drew)); exact HO_127001.out) (Kd.R_base ho0) hb)
            have n3_ := Aside0.mk (Kd.R_elder' (by (with_reducible repeat (first | apply Kd.R_alloc | apply Kd.R_drewN | apply Kd.R_drew)); exact HO_127002.out) (Kd.R_base ho1) hb)
            have n4_ := Aside0.mk (Kd.R_elder' (by (with_reducible repeat (first | apply Kd.R_alloc | apply Kd.R_drewN | apply Kd.R_drew)); exact HO_136001.out) (Kd.R_base ho0) hb)
            have n5_ := Aside0.mk (Kd.R_elder' (by (with_reducible repeat (first | apply Kd.R_alloc | apply Kd.R_drewN | apply Kd.R_drew)); exact HO_136002.out) (Kd.R_base ho1) hb)
            have n6_ := Aside0.mk (Kd.R_lower (Kd.R_new' (Kd.R_new' (Kd.R_new' ho0 (Kd.R_lt (by (with_reducible repeat (first | apply Kd.R_alloc | apply Kd.R_drewN | apply Kd.R_drew)); exact HO_119001.out))) (Kd.R_lt (by (with_reducible repeat (first | apply Kd.R_alloc | apply Kd.R_drewN | apply Kd.R_drew)); exact HO_127001.out))) (Kd.R_lt (by (with_reducible repeat (first | apply Kd.R_alloc | apply Kd.R_drewN | apply Kd.R_drew)); exact HO_136001.out))) (below_size (by repeat (first | (with_reducible first | exact HB.out | apply below_alloc | apply pw_below_drewN | apply below_drew1 | refine below_set ?_ GE101.out | refine below_set ?_ GE118.out | refine below_set ?_ GE126.out | refine below_set ?_ GE135.out) | exact HB.out))))
            have n7_ := Aside0.mk (Kd.R_lower (Kd.R_new' (Kd.R_new' (Kd.R_new' ho1 (Kd.R_lt (by (with_reducible repeat (first | apply Kd.R_alloc | apply Kd.R_drewN | apply Kd.R_drew)); exact HO_119002.out))) (Kd.R_lt (by (with_reducible repeat (first | apply Kd.R_alloc | apply Kd.R_drewN | apply Kd.R_drew)); exact HO_127002.out))) (Kd.R_lt (by (with_reducible repeat (first | apply Kd.R_alloc | apply Kd.R_drewN | apply Kd.R_drew)); exact HO_136002.out))) (below_size (by repeat (first | (with_reducible first | exact HB.out | apply below_alloc | apply pw_below_drewN | apply below_drew1 | refine below_set ?_ GE101.out | refine below_set ?_ GE118.out | refine below_set ?_ GE126.out | refine below_set ?_ GE135.out) | exact HB.out))))
            have n8_ := Aside0.mk (blk_below (g := gb101) (o := .cells #[.int .i8 a0_0, .slice A0_1 l0_1.length c0_1, .slice A0_2 l0_2.length c0_2] 26 (0, 0)) (by (with_reducible repeat (first | refine blk_drewN ?_ _ | refine blk_drew ?_ | refine blk_alloc ?_ _)); exact BK101.out) hb)
            have n9_ := Aside0.mk (blk_below (g := gb118) (o := .cells #[.int .i8 t110, .slice Ao24 t111.length co24, .slice Ao25 t114.length co25] 30 (0, 0)) (by (with_reducible repeat (first | refine blk_drewN ?_ _ | refine blk_drew ?_ | refine blk_alloc ?_ _)); exact BK118.out) hb)
            have n10_ := Aside0.mk (blk_below (g := gb126) (o := .cells #[.int .i8 t119, .slice Ao32 t120.length co32, .slice Ao33 t123.length co33] 30 (0, 0)) (by (with_reducible repeat (first | refine blk_drewN ?_ _ | refine blk_drew ?_ | refine blk_alloc ?_ _)); exact BK126.out) hb)
            have n11_ := Aside0.mk (blk_below (g := gb135) (o := .cells #[.int .i8 t127, .slice Ao40 t128.length co40, .slice Ao41 t131.length co41] 30 (0, 0)) (by (with_reducible repeat (first | refine blk_drewN ?_ _ | refine blk_drew ?_ | refine blk_alloc ?_ _)); exact BK135.out) hb)
            have n12_ := Aside0.mk (below_step (by repeat (first | (with_reducible first | exact HB.out | apply below_alloc | apply pw_below_drewN | apply below_drew1 | refine below_set ?_ GE101.out | refine below_set ?_ GE118.out | refine below_set ?_ GE126.out | refine below_set ?_ GE135.out) | exact HB.out)) hb)
            clear HO_119001
            clear HO_119002
            clear HO_127001
            clear HO_127002
            clear HO_136001
            clear HO_136002
            clear BK101
            clear BK118
            clear BK126
            clear BK135
            clear HB
            have HO_119001 := n0_
            have HO_119002 := n1_
            have HO_127001 := n2_
            have HO_127002 := n3_
            have HO_136001 := n4_
            have HO_136002 := n5_
            have HO140 := n6_
            have HO143 := n7_
            have BK101 := n8_
            have BK118 := n9_
            have BK126 := n10_
            have BK135 := n11_
            have HB := n12_
            clear n0_ n1_ n2_ n3_ n4_ n5_ n6_ n7_ n8_ n9_ n10_ n11_ n12_
            (try clear hb)
            (try clear hb2)
            (try clear hk)
            (try clear hi)
            (try clear ho0)
            (try clear ho1)
            obtain ⟨Ao68, co68, eo68⟩ := Kd.R_slice HO140.out
            (first | subst eo68 | (injection eo68 with f1_ f2_ f3_; have f4_ := f1_.symm; have f5_ := f3_.symm; clear f1_ f2_ f3_; subst f4_; subst f5_))
            obtain ⟨Ao69, co69, eo69⟩ := Kd.R_slice HO143.out
            (first | subst eo69 | (injection eo69 with f1_ f2_ f3_; have f4_ := f1_.symm; have f5_ := f3_.symm; clear f1_ f2_ f3_; subst f4_; subst f5_))
            refine hK.out _ _ ⟨(blk_cell BK126.out 0).trans rfl, (blk_cell BK126.out 1).trans rfl, (blk_cell BK126.out 2).trans rfl, (blk_cell BK101.out 0).trans rfl, (blk_cell BK101.out 1).trans rfl, (blk_cell BK101.out 2).trans rfl⟩ (fun hHeld => ?_)
            clear hK K
            refine norm_ (a' := ?_) ?_ ?_
            rotate_left
            · show Act.put _ (some 47) _ = _
              simp only [Act.put, List.setIfInBounds_toArray, List.set_cons_zero, List.set_cons_succ, i64_w, i32_w]
              rfl
            refine one_ (i := 3) (N := some 48) #[true, true, true, true, false] rfl rfl (by kernel_rfl) (by decide) (fun K hK => ?_)
            refine goes_ Try.func13 (by kernel_rfl) rfl #[.agg #[.int .i8 t119, .slice Ao32 t120.length co32, .slice Ao33 t123.length co33], .agg #[.int .i8 t137, .slice Ao68 t138.length co68, .slice Ao69 t141.length co69]] (by rfl) rfl rfl (by (try simp only [List.map_toArray, List.map_cons, List.map_nil]); first | done | rfl | (simp only [List.length_drop, List.length_take]; rfl)) ?_
            with_reducible refine (laws_eqCircuit.calls kj11 t119 _ _ t120 _ _ t123 t137 _ _ t138 _ _ t141 true _ ?side1 ?side2 ?side3 ?side4 ?side5 ?side6 ?side7 ?side8 A62.out).mono ?_
            (case side1 => repeat (first | exact (Kd.R_reads' HO_127001.out).2.2 | (with_reducible refine Kd.C_alloc ?_ _) | (with_reducible refine Kd.C_drewN ?_ _) | (with_reducible refine Kd.C_drew ?_)))
            (case side2 => exact (Kd.R_reads' HO_127001.out).2.1)
            (case side3 => repeat (first | exact (Kd.R_reads' HO_127002.out).2.2 | (with_reducible refine Kd.C_alloc ?_ _) | (with_reducible refine Kd.C_drewN ?_ _) | (with_reducible refine Kd.C_drew ?_)))
            (case side4 => exact (Kd.R_reads' HO_127002.out).2.1)
            (case side5 => repeat (first | exact (Kd.R_reads' HO140.out).2.2 | (with_reducible refine Kd.C_alloc ?_ _) | (with_reducible refine Kd.C_drewN ?_ _) | (with_reducible refine Kd.C_drew ?_)))
            (case side6 => exact (Kd.R_reads' HO140.out).2.1)
            (case side7 => repeat (first | exact (Kd.R_reads' HO143.out).2.2 | (with_reducible refine Kd.C_alloc ?_ _) | (with_reducible refine Kd.C_drewN ?_ _) | (with_reducible refine Kd.C_drew ?_)))
            (case side8 => exact (Kd.R_reads' HO143.out).2.1)
            rintro e w70 ⟨rfl, hb⟩
            refine ⟨_, rfl, ?_⟩
            have n0_ := Aside0.mk (Kd.R_below (by (with_reducible repeat (first | apply Kd.R_alloc | apply Kd.R_drewN | apply Kd.R_drew)); exact HO_119001.out) hb)
            have n1_ := Aside0.mk (Kd.R_below (by (with_reducible repeat (first | apply Kd.R_alloc | apply Kd.R_drewN | apply Kd.R_drew)); exact HO_119002.out) hb)
            have n2_ := Aside0.mk (Kd.R_below (by (with_reducible repeat (first | apply Kd.R_alloc | apply Kd.R_drewN | apply Kd.R_drew)); exact HO_127001.out) hb)
            have n3_ := Aside0.mk (Kd.R_below (by (with_reducible repeat (first | apply Kd.R_alloc | apply Kd.R_drewN | apply Kd.R_drew)); exact HO_127002.out) hb)
            have n4_ := Aside0.mk (Kd.R_below (by (with_reducible repeat (first | apply Kd.R_alloc | apply Kd.R_drewN | apply Kd.R_drew)); exact HO_136001.out) hb)
            have n5_ := Aside0.mk (Kd.R_below (by (with_reducible repeat (first | apply Kd.R_alloc | apply Kd.R_drewN | apply Kd.R_drew)); exact HO_136002.out) hb)
            have n6_ := Aside0.mk (Kd.R_below (by (with_reducible repeat (first | apply Kd.R_alloc | apply Kd.R_drewN | apply Kd.R_drew)); exact HO140.out) hb)
            have n7_ := Aside0.mk (Kd.R_below (by (with_reducible repeat (first | apply Kd.R_alloc | apply Kd.R_drewN | apply Kd.R_drew)); exact HO143.out) hb)
            have n8_ := Aside0.mk (blk_below (g := gb101) (o := .cells #[.int .i8 a0_0, .slice A0_1 l0_1.length c0_1, .slice A0_2 l0_2.length c0_2] 26 (0, 0)) (by (with_reducible repeat (first | refine blk_drewN ?_ _ | refine blk_drew ?_ | refine blk_alloc ?_ _)); exact BK101.out) hb)
            have n9_ := Aside0.mk (blk_below (g := gb118) (o := .cells #[.int .i8 t110, .slice Ao24 t111.length co24, .slice Ao25 t114.length co25] 30 (0, 0)) (by (with_reducible repeat (first | refine blk_drewN ?_ _ | refine blk_drew ?_ | refine blk_alloc ?_ _)); exact BK118.out) hb)
            have n10_ := Aside0.mk (blk_below (g := gb126) (o := .cells #[.int .i8 t119, .slice Ao32 t120.length co32, .slice Ao33 t123.length co33] 30 (0, 0)) (by (with_reducible repeat (first | refine blk_drewN ?_ _ | refine blk_drew ?_ | refine blk_alloc ?_ _)); exact BK126.out) hb)
            have n11_ := Aside0.mk (blk_below (g := gb135) (o := .cells #[.int .i8 t127, .slice Ao40 t128.length co40, .slice Ao41 t131.length co41] 30 (0, 0)) (by (with_reducible repeat (first | refine blk_drewN ?_ _ | refine blk_drew ?_ | refine blk_alloc ?_ _)); exact BK135.out) hb)
            have n12_ := Aside0.mk (below_step (by repeat (first | (with_reducible first | exact HB.out | apply below_alloc | apply pw_below_drewN | apply below_drew1 | refine below_set ?_ GE101.out | refine below_set ?_ GE118.out | refine below_set ?_ GE126.out | refine below_set ?_ GE135.out) | exact HB.out)) hb)
            clear HO_119001
            clear HO_119002
            clear HO_127001
            clear HO_127002
            clear HO_136001
            clear HO_136002
            clear HO140
            clear HO143
            clear BK101
            clear BK118
            clear BK126
            clear BK135
            clear HB
            have HO_119001 := n0_
            have HO_119002 := n1_
            have HO_127001 := n2_
            have HO_127002 := n3_
            have HO_136001 := n4_
            have HO_136002 := n5_
            have HO140 := n6_
            have HO143 := n7_
            have BK101 := n8_
            have BK118 := n9_
            have BK126 := n10_
            have BK135 := n11_
            have HB := n12_
            clear n0_ n1_ n2_ n3_ n4_ n5_ n6_ n7_ n8_ n9_ n10_ n11_ n12_
            (try clear hb)
            (try clear hb2)
            (try clear hk)
            (try clear hi)
            refine hK.out _ _ ⟨(blk_cell BK126.out 0).trans rfl, (blk_cell BK126.out 1).trans rfl, (blk_cell BK126.out 2).trans rfl, (blk_cell BK101.out 0).trans rfl, (blk_cell BK101.out 1).trans rfl, (blk_cell BK101.out 2).trans rfl⟩ (fun hHeld => ?_)
            clear hK K
            refine norm_ (a' := ?_) ?_ ?_
            rotate_left
            · show Act.put _ (some 48) _ = _
              simp only [Act.put, List.setIfInBounds_toArray, List.set_cons_zero, List.set_cons_succ, i64_w, i32_w]
              rfl
            refine pure_ (i := 4) (N := some 49) (v := ?_) (a' := ?_) #[true, true, true, true, true] rfl rfl (by kernel_rfl) (fun _ _ _ h => h) (Or.inl ⟨by rfl, ?_⟩) ?_ ?_
            rotate_left
            · intro w'
              go_simp
              with_reducible rfl
            rotate_left
            · simp only [Act.put, List.setIfInBounds_toArray, List.set_cons_zero, List.set_cons_succ, i64_w, i32_w]
              rfl
            refine done_ (by kernel_rfl) ?_
            have hnb71 := NB126_101.out
            have hnc71 := NB101_126.out
            have hnb72 := NB126_118.out
            have hnc72 := NB118_126.out
            have hnb73 := NB126_135.out
            have hnc73 := NB135_126.out
            have hcz74_0 : w70.cell? ⟨gb126, 0, none⟩ = some (.int .i8 t119) := (blk_cell BK126.out 0).trans rfl
            have hcz74_1 : w70.cell? ⟨gb126, 1, none⟩ = some (.slice Ao32 t120.length co32) := (blk_cell BK126.out 1).trans rfl
            have hcz74_2 : w70.cell? ⟨gb126, 2, none⟩ = some (.slice Ao33 t123.length co33) := (blk_cell BK126.out 2).trans rfl
            have hfz74_0 := blk_frozen BK126.out 0
            have hfz74_1 := blk_frozen BK126.out 1
            have hfz74_2 := blk_frozen BK126.out 2
            go_upto_region 14 with (first | ((with_reducible refine gate_callee (f := 14) rfl ?_); refine goesL_ (some 52) rfl rfl Try.func14 (by kernel_rfl) rfl #[.agg #[.int .i8 t119, .slice Ao32 t120.length co32, .slice Ao33 t123.length co33], .int .i64 1] rfl (by (try simp only [List.map_toArray, List.map_cons, List.map_nil]); first | done | rfl | (simp only [List.length_drop, List.length_take]; rfl)) ?_; (with_reducible refine (laws_markCircuit.calls kj11 t119 (fun k_ => some k_ = (.slice Ao32 t120.length co32 : Value).ownBlock) (.slice Ao32 t120.length co32) t120 (fun k_ => some k_ = (.slice Ao33 t123.length co33 : Value).ownBlock) (.slice Ao33 t123.length co33) t123 1 t145 t146 t147 w _ ?side1 ?side2 ?side3 A64.out).mono ?_); (case side1 => repeat (first | (with_reducible first | exact HB.out | apply below_alloc | apply pw_below_drewN | apply below_drew1 | refine below_set ?_ GE101.out | refine below_set ?_ GE118.out | refine below_set ?_ GE126.out | refine below_set ?_ GE135.out) | exact HB.out)); (case side2 => exact Kd.R_tight rfl HO_127001.out); (case side3 => exact Kd.R_tight rfl HO_127002.out); rintro e w75 ⟨rfl, hy0, hy1, hb, hkp⟩; refine ⟨_, rfl, ?_⟩; have n0_ := Aside0.mk (Kd.R_mono (ok' := fun k_ => some k_ ≠ (.slice Ao32 t120.length co32 : Value).ownBlock ∧ some k_ ≠ (.slice Ao40 t128.length co40 : Value).ownBlock ∧ some k_ ≠ (.slice Ao68 t138.length co68 : Value).ownBlock) (Kd.R_keptB ((Kd.R_apart' HO_119001.out (Kd.R_typed HO_127002.out) (by decide))) hkp (fun k_ hk_ hs_ => Or.elim hs_ (fun e_ => (hk_.1.1.1) e_) (fun e_ => (hk_.2) e_))) (fun k_ hk_ => ⟨hk_.1.1.1.1, hk_.1.1.1.2, hk_.1.1.2⟩)); have n1_ := Aside0.mk (Kd.R_mono (ok' := fun k_ => some k_ ≠ (.slice Ao33 t123.length co33 : Value).ownBlock ∧ some k_ ≠ (.slice Ao41 t131.length co41 : Value).ownBlock ∧ some k_ ≠ (.slice Ao69 t141.length co69 : Value).ownBlock) (Kd.R_keptB ((Kd.R_apart' HO_119002.out (Kd.R_typed HO_127001.out) (by decide))) hkp (fun k_ hk_ hs_ => Or.elim hs_ (fun e_ => (hk_.2) e_) (fun e_ => (hk_.1.1.1) e_))) (fun k_ hk_ => ⟨hk_.1.1.1.1, hk_.1.1.1.2, hk_.1.1.2⟩)); have n2_ := Aside0.mk (Kd.R_reok rfl hy0 (fun k_ e_ => HO_127001.out.1 k_ e_)); have n3_ := Aside0.mk (Kd.R_reok rfl hy1 (fun k_ e_ => HO_127002.out.1 k_ e_)); have n4_ := Aside0.mk (Kd.R_mono (ok' := fun k_ => some k_ ≠ (.slice Ao24 t111.length co24 : Value).ownBlock ∧ some k_ ≠ (.slice Ao32 t120.length co32 : Value).ownBlock ∧ some k_ ≠ (.slice Ao68 t138.length co68 : Value).ownBlock) (Kd.R_keptB ((Kd.R_apart' HO_136001.out (Kd.R_typed HO_127002.out) (by decide))) hkp (fun k_ hk_ hs_ => Or.elim hs_ (fun e_ => (hk_.1.1.2) e_) (fun e_ => (hk_.2) e_))) (fun k_ hk_ => ⟨hk_.1.1.1.1, hk_.1.1.1.2, hk_.1.1.2⟩)); have n5_ := Aside0.mk (Kd.R_mono (ok' := fun k_ => some k_ ≠ (.slice Ao25 t114.length co25 : Value).ownBlock ∧ some k_ ≠ (.slice Ao33 t123.length co33 : Value).ownBlock ∧ some k_ ≠ (.slice Ao69 t141.length co69 : Value).ownBlock) (Kd.R_keptB ((Kd.R_apart' HO_136002.out (Kd.R_typed HO_127001.out) (by decide))) hkp (fun k_ hk_ hs_ => Or.elim hs_ (fun e_ => (hk_.2) e_) (fun e_ => (hk_.1.1.2) e_))) (fun k_ hk_ => ⟨hk_.1.1.1.1, hk_.1.1.1.2, hk_.1.1.2⟩)); have n6_ := Aside0.mk (blk_kept (by (with_reducible repeat (first | refine blk_drewN ?_ _ | refine blk_drew ?_ | refine blk_alloc ?_ _)); exact BK101.out) hkp (fun hs_ => Or.elim hs_ (fun e_ => (fun e_ => (Kd.R_ne HO_127001.out BK101.out (by decide)) e_) e_) (fun e_ => (fun e_ => (Kd.R_ne HO_127002.out BK101.out (by decide)) e_) e_))); have n7_ := Aside0.mk (blk_kept (by (with_reducible repeat (first | refine blk_drewN ?_ _ | refine blk_drew ?_ | refine blk_alloc ?_ _)); exact BK118.out) hkp (fun hs_ => Or.elim hs_ (fun e_ => (fun e_ => (Kd.R_ne HO_127001.out BK118.out (by decide)) e_) e_) (fun e_ => (fun e_ => (Kd.R_ne HO_127002.out BK118.out (by decide)) e_) e_))); have n8_ := Aside0.mk (blk_kept (by (with_reducible repeat (first | refine blk_drewN ?_ _ | refine blk_drew ?_ | refine blk_alloc ?_ _)); exact BK126.out) hkp (fun hs_ => Or.elim hs_ (fun e_ => (fun e_ => (Kd.R_ne HO_127001.out BK126.out (by decide)) e_) e_) (fun e_ => (fun e_ => (Kd.R_ne HO_127002.out BK126.out (by decide)) e_) e_))); have n9_ := Aside0.mk (blk_kept (by (with_reducible repeat (first | refine blk_drewN ?_ _ | refine blk_drew ?_ | refine blk_alloc ?_ _)); exact BK135.out) hkp (fun hs_ => Or.elim hs_ (fun e_ => (fun e_ => (Kd.R_ne HO_127001.out BK135.out (by decide)) e_) e_) (fun e_ => (fun e_ => (Kd.R_ne HO_127002.out BK135.out (by decide)) e_) e_))); have n10_ := Aside0.mk (Kd.R_mono (ok' := fun k_ => some k_ ≠ (.slice Ao24 t111.length co24 : Value).ownBlock ∧ some k_ ≠ (.slice Ao32 t120.length co32 : Value).ownBlock ∧ some k_ ≠ (.slice Ao40 t128.length co40 : Value).ownBlock) (Kd.R_keptB ((Kd.R_apart' HO140.out (Kd.R_typed HO_127002.out) (by decide))) hkp (fun k_ hk_ hs_ => Or.elim hs_ (fun e_ => (hk_.1.1.2) e_) (fun e_ => (hk_.2) e_))) (fun k_ hk_ => ⟨hk_.1.1.1.1.2, hk_.1.1.1.2, hk_.1.1.2⟩)); have n11_ := Aside0.mk (Kd.R_mono (ok' := fun k_ => some k_ ≠ (.slice Ao25 t114.length co25 : Value).ownBlock ∧ some k_ ≠ (.slice Ao33 t123.length co33 : Value).ownBlock ∧ some k_ ≠ (.slice Ao41 t131.length co41 : Value).ownBlock) (Kd.R_keptB ((Kd.R_apart' HO143.out (Kd.R_typed HO_127001.out) (by decide))) hkp (fun k_ hk_ hs_ => Or.elim hs_ (fun e_ => (hk_.2) e_) (fun e_ => (hk_.1.1.2) e_))) (fun k_ hk_ => ⟨hk_.1.1.1.1.2, hk_.1.1.1.2, hk_.1.1.2⟩)); have n12_ := Aside0.mk (hb); clear HO_119001; clear HO_119002; clear HO_127001; clear HO_127002; clear HO_136001; clear HO_136002; clear BK101; clear BK118; clear BK126; clear BK135; clear HO140; clear HO143; clear HB; have HO_119001 := n0_; have HO_119002 := n1_; have HO_127001 := n2_; have HO_127002 := n3_; have HO_136001 := n4_; have HO_136002 := n5_; have BK101 := n6_; have BK118 := n7_; have BK126 := n8_; have BK135 := n9_; have HO140 := n10_; have HO143 := n11_; have HB := n12_; clear n0_ n1_ n2_ n3_ n4_ n5_ n6_ n7_ n8_ n9_ n10_ n11_ n12_; (try clear hb); (try clear hkp); (try clear hy0); (try clear hy1)))
            (try simp only [Act.put, List.setIfInBounds_toArray, List.set_cons_zero, List.set_cons_succ])
            go_cut [65] (fun v65 wc => ∃ (kq : Nat) (x65_64 : Bool), v65 = .bool x65_64 ∧ Aside0 (laws_FnExactFlipGate.j1 kq a1 t117 x65_64 a0_0 l0_1 l0_2 t110 t111 t114 t127 t128 t131 = some r) ∧ Aside0 (kq ≤ kj11) ∧ Aside0 (Kd.R k68 68 wc w.heap.size (fun k_ => some k_ ≠ ((.slice Ao32 t120.length co32) : Value).ownBlock ∧ some k_ ≠ ((.slice Ao40 t128.length co40) : Value).ownBlock) (.slice Ao24 t111.length co24) t111) ∧ Aside0 (Kd.R (Kd.int .i16) 66 wc w.heap.size (fun k_ => some k_ ≠ ((.slice Ao33 t123.length co33) : Value).ownBlock ∧ some k_ ≠ ((.slice Ao41 t131.length co41) : Value).ownBlock) (.slice Ao25 t114.length co25) t114) ∧ Aside0 (Kd.R k68 68 wc w.heap.size (fun k_ => some k_ ≠ ((.slice Ao24 t111.length co24) : Value).ownBlock ∧ some k_ ≠ ((.slice Ao40 t128.length co40) : Value).ownBlock) (.slice Ao32 t120.length co32) t146) ∧ Aside0 (Kd.R (Kd.int .i16) 66 wc w.heap.size (fun k_ => some k_ ≠ ((.slice Ao25 t114.length co25) : Value).ownBlock ∧ some k_ ≠ ((.slice Ao41 t131.length co41) : Value).ownBlock) (.slice Ao33 t123.length co33) t147) ∧ Aside0 (Kd.R k68 68 wc w.heap.size (fun k_ => some k_ ≠ ((.slice Ao24 t111.length co24) : Value).ownBlock ∧ some k_ ≠ ((.slice Ao32 t120.length co32) : Value).ownBlock) (.slice Ao40 t128.length co40) t128) ∧ Aside0 (Kd.R (Kd.int .i16) 66 wc w.heap.size (fun k_ => some k_ ≠ ((.slice Ao25 t114.length co25) : Value).ownBlock ∧ some k_ ≠ ((.slice Ao33 t123.length co33) : Value).ownBlock) (.slice Ao41 t131.length co41) t131) ∧ Aside0 (wc.heap[gb101]? = some (.cells #[.int .i8 a0_0, (.slice A0_1 l0_1.length c0_1), (.slice A0_2 l0_2.length c0_2)] 26 (0, 0))) ∧ Aside0 (wc.heap[gb118]? = some (.cells #[.int .i8 t110, (.slice Ao24 t111.length co24), (.slice Ao25 t114.length co25)] 30 (0, 0))) ∧ Aside0 (wc.heap[gb126]? = some (.cells #[.int .i8 t119, (.slice Ao32 t120.length co32), (.slice Ao33 t123.length co33)] 30 (0, 0))) ∧ Aside0 (wc.heap[gb135]? = some (.cells #[.int .i8 t127, (.slice Ao40 t128.length co40), (.slice Ao41 t131.length co41)] 30 (0, 0))) ∧ Aside0 (Below w.heap.size w wc))
            case first =>
              have H := HC65.out
              clear HC65
              by_cases c76 : t145 < 0
              · rw [if_pos c76] at H
                have c76b0 : decide (t145 < 0) = true := decide_eq_true c76
                clear c76
                (first | rw [c76b0] | (simp only [i64_w, i32_w]; rw [c76b0]) | skip)
                have H' := Aside0.mk H
                clear H
                go_wp2
                go_meet
                case rel => exact ⟨_, (true), (by first | rfl | (simp; done) | (simp [*]; done)), H', ⟨by have := HJ11.out; first | omega | exact Nat.le_refl _⟩, ⟨by (with_reducible repeat (first | apply Kd.R_alloc | apply Kd.R_drewN | apply Kd.R_drew)); exact Kd.R_mono HO_119001.out (fun _ hk => ⟨hk.1, hk.2.1⟩)⟩, ⟨by (with_reducible repeat (first | apply Kd.R_alloc | apply Kd.R_drewN | apply Kd.R_drew)); exact Kd.R_mono HO_119002.out (fun _ hk => ⟨hk.1, hk.2.1⟩)⟩, ⟨by (with_reducible repeat (first | apply Kd.R_alloc | apply Kd.R_drewN | apply Kd.R_drew)); exact Kd.R_mono HO_127001.out (fun _ hk => ⟨hk.1.1, hk.1.2⟩)⟩, ⟨by (with_reducible repeat (first | apply Kd.R_alloc | apply Kd.R_drewN | apply Kd.R_drew)); exact Kd.R_mono HO_127002.out (fun _ hk => ⟨hk.1.1, hk.1.2⟩)⟩, ⟨by (with_reducible repeat (first | apply Kd.R_alloc | apply Kd.R_drewN | apply Kd.R_drew)); exact Kd.R_mono HO_136001.out (fun _ hk => ⟨hk.1, hk.2.1⟩)⟩, ⟨by (with_reducible repeat (first | apply Kd.R_alloc | apply Kd.R_drewN | apply Kd.R_drew)); exact Kd.R_mono HO_136002.out (fun _ hk => ⟨hk.1, hk.2.1⟩)⟩, ⟨by (with_reducible repeat (first | refine blk_drewN ?_ _ | refine blk_drew ?_ | refine blk_alloc ?_ _)); exact BK101.out⟩, ⟨by (with_reducible repeat (first | refine blk_drewN ?_ _ | refine blk_drew ?_ | refine blk_alloc ?_ _)); exact BK118.out⟩, ⟨by (with_reducible repeat (first | refine blk_drewN ?_ _ | refine blk_drew ?_ | refine blk_alloc ?_ _)); exact BK126.out⟩, ⟨by (with_reducible repeat (first | refine blk_drewN ?_ _ | refine blk_drew ?_ | refine blk_alloc ?_ _)); exact BK135.out⟩, ⟨by repeat (first | (with_reducible first | exact HB.out | apply below_alloc | apply pw_below_drewN | apply below_drew1 | refine below_set ?_ GE101.out | refine below_set ?_ GE118.out | refine below_set ?_ GE126.out | refine below_set ?_ GE135.out) | exact HB.out)⟩⟩
              · rw [if_neg c76] at H
                have c76b0 : decide (t145 < 0) = false := decide_eq_false c76
                clear c76
                (first | rw [c76b0] | (simp only [i64_w, i32_w]; rw [c76b0]) | skip)
                replace H := Option.bind_eq_some_iff.mp H
                obtain ⟨t148, A770, H⟩ := H
                replace H : (if t148 = true then (laws_FnExactFlipGate.j1 kj11 a1 t117 (t134 != t117) a0_0 l0_1 l0_2 t110 t111 t114 t127 t128 t131) else (laws_FnExactFlipGate.j1 kj11 a1 t117 true a0_0 l0_1 l0_2 t110 t111 t114 t127 t128 t131)) = some r := H
                have A77 := Aside0.mk A770
                clear A770
                by_cases c78 : t148 = true
                · subst c78
                  have H1 : (laws_FnExactFlipGate.j1 kj11 a1 t117 (t134 != t117) a0_0 l0_1 l0_2 t110 t111 t114 t127 t128 t131) = some r := by rw [if_pos rfl] at H; exact H
                  clear H
                  have H := H1
                  clear H1
                  have H' := Aside0.mk H
                  clear H
                  have hnb79 := NB135_101.out
                  have hnc79 := NB101_135.out
                  have hnb80 := NB135_118.out
                  have hnc80 := NB118_135.out
                  have hnb81 := NB135_126.out
                  have hnc81 := NB126_135.out
                  have hcz82_0 : w75.cell? ⟨gb135, 0, none⟩ = some (.int .i8 t127) := (blk_cell BK135.out 0).trans rfl
                  have hcz82_1 : w75.cell? ⟨gb135, 1, none⟩ = some (.slice Ao40 t128.length co40) := (blk_cell BK135.out 1).trans rfl
                  have hcz82_2 : w75.cell? ⟨gb135, 2, none⟩ = some (.slice Ao41 t131.length co41) := (blk_cell BK135.out 2).trans rfl
                  have hfz82_0 := blk_frozen BK135.out 0
                  have hfz82_1 := blk_frozen BK135.out 1
                  have hfz82_2 := blk_frozen BK135.out 2
                  have hnb83 := NB118_101.out
                  have hnc83 := NB101_118.out
                  have hnb84 := NB118_126.out
                  have hnc84 := NB126_118.out
                  have hcz85_0 : w75.cell? ⟨gb118, 0, none⟩ = some (.int .i8 t110) := (blk_cell BK118.out 0).trans rfl
                  have hcz85_1 : w75.cell? ⟨gb118, 1, none⟩ = some (.slice Ao24 t111.length co24) := (blk_cell BK118.out 1).trans rfl
                  have hcz85_2 : w75.cell? ⟨gb118, 2, none⟩ = some (.slice Ao25 t114.length co25) := (blk_cell BK118.out 2).trans rfl
                  have hfz85_0 := blk_frozen BK118.out 0
                  have hfz85_1 := blk_frozen BK118.out 1
                  have hfz85_2 := blk_frozen BK118.out 2
                  go_wp2_with (first | (go_at_call 13; (with_reducible refine (laws_eqCircuit.calls kj11 t127 _ _ t128 _ _ t131 t110 _ _ t111 _ _ t114 true _ ?side1 ?side2 ?side3 ?side4 ?side5 ?side6 ?side7 ?side8 A77.out).mono ?_); (case side1 => repeat (first | exact (Kd.R_reads' HO_136001.out).2.2 | (with_reducible refine Kd.C_alloc ?_ _) | (with_reducible refine Kd.C_drewN ?_ _) | (with_reducible refine Kd.C_drew ?_))); (case side2 => exact (Kd.R_reads' HO_136001.out).2.1); (case side3 => repeat (first | exact (Kd.R_reads' HO_136002.out).2.2 | (with_reducible refine Kd.C_alloc ?_ _) | (with_reducible refine Kd.C_drewN ?_ _) | (with_reducible refine Kd.C_drew ?_))); (case side4 => exact (Kd.R_reads' HO_136002.out).2.1); (case side5 => repeat (first | exact (Kd.R_reads' HO_119001.out).2.2 | (with_reducible refine Kd.C_alloc ?_ _) | (with_reducible refine Kd.C_drewN ?_ _) | (with_reducible refine Kd.C_drew ?_))); (case side6 => exact (Kd.R_reads' HO_119001.out).2.1); (case side7 => repeat (first | exact (Kd.R_reads' HO_119002.out).2.2 | (with_reducible refine Kd.C_alloc ?_ _) | (with_reducible refine Kd.C_drewN ?_ _) | (with_reducible refine Kd.C_drew ?_))); (case side8 => exact (Kd.R_reads' HO_119002.out).2.1); rintro e w86 ⟨rfl, hb⟩; have n0_ := Aside0.mk (Kd.R_below (by (with_reducible repeat (first | apply Kd.R_alloc | apply Kd.R_drewN | apply Kd.R_drew)); exact HO_119001.out) hb); have n1_ := Aside0.mk (Kd.R_below (by (with_reducible repeat (first | apply Kd.R_alloc | apply Kd.R_drewN | apply Kd.R_drew)); exact HO_119002.out) hb); have n2_ := Aside0.mk (Kd.R_below (by (with_reducible repeat (first | apply Kd.R_alloc | apply Kd.R_drewN | apply Kd.R_drew)); exact HO_127001.out) hb); have n3_ := Aside0.mk (Kd.R_below (by (with_reducible repeat (first | apply Kd.R_alloc | apply Kd.R_drewN | apply Kd.R_drew)); exact HO_127002.out) hb); have n4_ := Aside0.mk (Kd.R_below (by (with_reducible repeat (first | apply Kd.R_alloc | apply Kd.R_drewN | apply Kd.R_drew)); exact HO_136001.out) hb); have n5_ := Aside0.mk (Kd.R_below (by (with_reducible repeat (first | apply Kd.R_alloc | apply Kd.R_drewN | apply Kd.R_drew)); exact HO_136002.out) hb); have n6_ := Aside0.mk (Kd.R_below (by (with_reducible repeat (first | apply Kd.R_alloc | apply Kd.R_drewN | apply Kd.R_drew)); exact HO140.out) hb); have n7_ := Aside0.mk (Kd.R_below (by (with_reducible repeat (first | apply Kd.R_alloc | apply Kd.R_drewN | apply Kd.R_drew)); exact HO143.out) hb); have n8_ := Aside0.mk (blk_below (g := gb101) (o := .cells #[.int .i8 a0_0, .slice A0_1 l0_1.length c0_1, .slice A0_2 l0_2.length c0_2] 26 (0, 0)) (by (with_reducible repeat (first | refine blk_drewN ?_ _ | refine blk_drew ?_ | refine blk_alloc ?_ _)); exact BK101.out) hb); have n9_ := Aside0.mk (blk_below (g := gb118) (o := .cells #[.int .i8 t110, .slice Ao24 t111.length co24, .slice Ao25 t114.length co25] 30 (0, 0)) (by (with_reducible repeat (first | refine blk_drewN ?_ _ | refine blk_drew ?_ | refine blk_alloc ?_ _)); exact BK118.out) hb); have n10_ := Aside0.mk (blk_below (g := gb126) (o := .cells #[.int .i8 t119, .slice Ao32 t120.length co32, .slice Ao33 t123.length co33] 30 (0, 0)) (by (with_reducible repeat (first | refine blk_drewN ?_ _ | refine blk_drew ?_ | refine blk_alloc ?_ _)); exact BK126.out) hb); have n11_ := Aside0.mk (blk_below (g := gb135) (o := .cells #[.int .i8 t127, .slice Ao40 t128.length co40, .slice Ao41 t131.length co41] 30 (0, 0)) (by (with_reducible repeat (first | refine blk_drewN ?_ _ | refine blk_drew ?_ | refine blk_alloc ?_ _)); exact BK135.out) hb); have n12_ := Aside0.mk (below_step (by repeat (first | (with_reducible first | exact HB.out | apply below_alloc | apply pw_below_drewN | apply below_drew1 | refine below_set ?_ GE101.out | refine below_set ?_ GE118.out | refine below_set ?_ GE126.out | refine below_set ?_ GE135.out) | exact HB.out)) hb); clear HO_119001; clear HO_119002; clear HO_127001; clear HO_127002; clear HO_136001; clear HO_136002; clear HO140; clear HO143; clear BK101; clear BK118; clear BK126; clear BK135; clear HB; have HO_119001 := n0_; have HO_119002 := n1_; have HO_127001 := n2_; have HO_127002 := n3_; have HO_136001 := n4_; have HO_136002 := n5_; have HO140 := n6_; have HO143 := n7_; have BK101 := n8_; have BK118 := n9_; have BK126 := n10_; have BK135 := n11_; have HB := n12_; clear n0_ n1_ n2_ n3_ n4_ n5_ n6_ n7_ n8_ n9_ n10_ n11_ n12_; (try clear hb); (try clear hb2); (try clear hk); (try clear hi)))
                  go_meet
                  case rel => exact ⟨_, ((t134 != t117)), (by first | rfl | (simp; done) | (simp [*]; done)), H', ⟨by have := HJ11.out; first | omega | exact Nat.le_refl _⟩, ⟨by (with_reducible repeat (first | apply Kd.R_alloc | apply Kd.R_drewN | apply Kd.R_drew)); exact Kd.R_mono HO_119001.out (fun _ hk => ⟨hk.1, hk.2.1⟩)⟩, ⟨by (with_reducible repeat (first | apply Kd.R_alloc | apply Kd.R_drewN | apply Kd.R_drew)); exact Kd.R_mono HO_119002.out (fun _ hk => ⟨hk.1, hk.2.1⟩)⟩, ⟨by (with_reducible repeat (first | apply Kd.R_alloc | apply Kd.R_drewN | apply Kd.R_drew)); exact Kd.R_mono HO_127001.out (fun _ hk => ⟨hk.1.1, hk.1.2⟩)⟩, ⟨by (with_reducible repeat (first | apply Kd.R_alloc | apply Kd.R_drewN | apply Kd.R_drew)); exact Kd.R_mono HO_127002.out (fun _ hk => ⟨hk.1.1, hk.1.2⟩)⟩, ⟨by (with_reducible repeat (first | apply Kd.R_alloc | apply Kd.R_drewN | apply Kd.R_drew)); exact Kd.R_mono HO_136001.out (fun _ hk => ⟨hk.1, hk.2.1⟩)⟩, ⟨by (with_reducible repeat (first | apply Kd.R_alloc | apply Kd.R_drewN | apply Kd.R_drew)); exact Kd.R_mono HO_136002.out (fun _ hk => ⟨hk.1, hk.2.1⟩)⟩, ⟨by (with_reducible repeat (first | refine blk_drewN ?_ _ | refine blk_drew ?_ | refine blk_alloc ?_ _)); exact BK101.out⟩, ⟨by (with_reducible repeat (first | refine blk_drewN ?_ _ | refine blk_drew ?_ | refine blk_alloc ?_ _)); exact BK118.out⟩, ⟨by (with_reducible repeat (first | refine blk_drewN ?_ _ | refine blk_drew ?_ | refine blk_alloc ?_ _)); exact BK126.out⟩, ⟨by (with_reducible repeat (first | refine blk_drewN ?_ _ | refine blk_drew ?_ | refine blk_alloc ?_ _)); exact BK135.out⟩, ⟨by repeat (first | (with_reducible first | exact HB.out | apply below_alloc | apply pw_below_drewN | apply below_drew1 | refine below_set ?_ GE101.out | refine below_set ?_ GE118.out | refine below_set ?_ GE126.out | refine below_set ?_ GE135.out) | exact HB.out)⟩⟩
                · replace c78 := Bool.eq_false_iff.mpr c78
                  subst c78
                  have H1 : (laws_FnExactFlipGate.j1 kj11 a1 t117 true a0_0 l0_1 l0_2 t110 t111 t114 t127 t128 t131) = some r := by rw [if_neg (show ¬ (false = true) by decide)] at H; exact H
                  clear H
                  have H := H1
                  clear H1
                  have H' := Aside0.mk H
                  clear H
                  have hnb87 := NB135_101.out
                  have hnc87 := NB101_135.out
                  have hnb88 := NB135_118.out
                  have hnc88 := NB118_135.out
                  have hnb89 := NB135_126.out
                  have hnc89 := NB126_135.out
                  have hcz90_0 : w75.cell? ⟨gb135, 0, none⟩ = some (.int .i8 t127) := (blk_cell BK135.out 0).trans rfl
                  have hcz90_1 : w75.cell? ⟨gb135, 1, none⟩ = some (.slice Ao40 t128.length co40) := (blk_cell BK135.out 1).trans rfl
                  have hcz90_2 : w75.cell? ⟨gb135, 2, none⟩ = some (.slice Ao41 t131.length co41) := (blk_cell BK135.out 2).trans rfl
                  have hfz90_0 := blk_frozen BK135.out 0
                  have hfz90_1 := blk_frozen BK135.out 1
                  have hfz90_2 := blk_frozen BK135.out 2
                  have hnb91 := NB118_101.out
                  have hnc91 := NB101_118.out
                  have hnb92 := NB118_126.out
                  have hnc92 := NB126_118.out
                  have hcz93_0 : w75.cell? ⟨gb118, 0, none⟩ = some (.int .i8 t110) := (blk_cell BK118.out 0).trans rfl
                  have hcz93_1 : w75.cell? ⟨gb118, 1, none⟩ = some (.slice Ao24 t111.length co24) := (blk_cell BK118.out 1).trans rfl
                  have hcz93_2 : w75.cell? ⟨gb118, 2, none⟩ = some (.slice Ao25 t114.length co25) := (blk_cell BK118.out 2).trans rfl
                  have hfz93_0 := blk_frozen BK118.out 0
                  have hfz93_1 := blk_frozen BK118.out 1
                  have hfz93_2 := blk_frozen BK118.out 2
                  go_wp2_with (first | (go_at_call 13; (with_reducible refine (laws_eqCircuit.calls kj11 t127 _ _ t128 _ _ t131 t110 _ _ t111 _ _ t114 false _ ?side1 ?side2 ?side3 ?side4 ?side5 ?side6 ?side7 ?side8 A77.out).mono ?_); (case side1 => repeat (first | exact (Kd.R_reads' HO_136001.out).2.2 | (with_reducible refine Kd.C_alloc ?_ _) | (with_reducible refine Kd.C_drewN ?_ _) | (with_reducible refine Kd.C_drew ?_))); (case side2 => exact (Kd.R_reads' HO_136001.out).2.1); (case side3 => repeat (first | exact (Kd.R_reads' HO_136002.out).2.2 | (with_reducible refine Kd.C_alloc ?_ _) | (with_reducible refine Kd.C_drewN ?_ _) | (with_reducible refine Kd.C_drew ?_))); (case side4 => exact (Kd.R_reads' HO_136002.out).2.1); (case side5 => repeat (first | exact (Kd.R_reads' HO_119001.out).2.2 | (with_reducible refine Kd.C_alloc ?_ _) | (with_reducible refine Kd.C_drewN ?_ _) | (with_reducible refine Kd.C_drew ?_))); (case side6 => exact (Kd.R_reads' HO_119001.out).2.1); (case side7 => repeat (first | exact (Kd.R_reads' HO_119002.out).2.2 | (with_reducible refine Kd.C_alloc ?_ _) | (with_reducible refine Kd.C_drewN ?_ _) | (with_reducible refine Kd.C_drew ?_))); (case side8 => exact (Kd.R_reads' HO_119002.out).2.1); rintro e w94 ⟨rfl, hb⟩; have n0_ := Aside0.mk (Kd.R_below (by (with_reducible repeat (first | apply Kd.R_alloc | apply Kd.R_drewN | apply Kd.R_drew)); exact HO_119001.out) hb); have n1_ := Aside0.mk (Kd.R_below (by (with_reducible repeat (first | apply Kd.R_alloc | apply Kd.R_drewN | apply Kd.R_drew)); exact HO_119002.out) hb); have n2_ := Aside0.mk (Kd.R_below (by (with_reducible repeat (first | apply Kd.R_alloc | apply Kd.R_drewN | apply Kd.R_drew)); exact HO_127001.out) hb); have n3_ := Aside0.mk (Kd.R_below (by (with_reducible repeat (first | apply Kd.R_alloc | apply Kd.R_drewN | apply Kd.R_drew)); exact HO_127002.out) hb); have n4_ := Aside0.mk (Kd.R_below (by (with_reducible repeat (first | apply Kd.R_alloc | apply Kd.R_drewN | apply Kd.R_drew)); exact HO_136001.out) hb); have n5_ := Aside0.mk (Kd.R_below (by (with_reducible repeat (first | apply Kd.R_alloc | apply Kd.R_drewN | apply Kd.R_drew)); exact HO_136002.out) hb); have n6_ := Aside0.mk (Kd.R_below (by (with_reducible repeat (first | apply Kd.R_alloc | apply Kd.R_drewN | apply Kd.R_drew)); exact HO140.out) hb); have n7_ := Aside0.mk (Kd.R_below (by (with_reducible repeat (first | apply Kd.R_alloc | apply Kd.R_drewN | apply Kd.R_drew)); exact HO143.out) hb); have n8_ := Aside0.mk (blk_below (g := gb101) (o := .cells #[.int .i8 a0_0, .slice A0_1 l0_1.length c0_1, .slice A0_2 l0_2.length c0_2] 26 (0, 0)) (by (with_reducible repeat (first | refine blk_drewN ?_ _ | refine blk_drew ?_ | refine blk_alloc ?_ _)); exact BK101.out) hb); have n9_ := Aside0.mk (blk_below (g := gb118) (o := .cells #[.int .i8 t110, .slice Ao24 t111.length co24, .slice Ao25 t114.length co25] 30 (0, 0)) (by (with_reducible repeat (first | refine blk_drewN ?_ _ | refine blk_drew ?_ | refine blk_alloc ?_ _)); exact BK118.out) hb); have n10_ := Aside0.mk (blk_below (g := gb126) (o := .cells #[.int .i8 t119, .slice Ao32 t120.length co32, .slice Ao33 t123.length co33] 30 (0, 0)) (by (with_reducible repeat (first | refine blk_drewN ?_ _ | refine blk_drew ?_ | refine blk_alloc ?_ _)); exact BK126.out) hb); have n11_ := Aside0.mk (blk_below (g := gb135) (o := .cells #[.int .i8 t127, .slice Ao40 t128.length co40, .slice Ao41 t131.length co41] 30 (0, 0)) (by (with_reducible repeat (first | refine blk_drewN ?_ _ | refine blk_drew ?_ | refine blk_alloc ?_ _)); exact BK135.out) hb); have n12_ := Aside0.mk (below_step (by repeat (first | (with_reducible first | exact HB.out | apply below_alloc | apply pw_below_drewN | apply below_drew1 | refine below_set ?_ GE101.out | refine below_set ?_ GE118.out | refine below_set ?_ GE126.out | refine below_set ?_ GE135.out) | exact HB.out)) hb); clear HO_119001; clear HO_119002; clear HO_127001; clear HO_127002; clear HO_136001; clear HO_136002; clear HO140; clear HO143; clear BK101; clear BK118; clear BK126; clear BK135; clear HB; have HO_119001 := n0_; have HO_119002 := n1_; have HO_127001 := n2_; have HO_127002 := n3_; have HO_136001 := n4_; have HO_136002 := n5_; have HO140 := n6_; have HO143 := n7_; have BK101 := n8_; have BK118 := n9_; have BK126 := n10_; have BK135 := n11_; have HB := n12_; clear n0_ n1_ n2_ n3_ n4_ n5_ n6_ n7_ n8_ n9_ n10_ n11_ n12_; (try clear hb); (try clear hb2); (try clear hk); (try clear hi)))
                  go_meet
                  case rel => exact ⟨_, (true), (by first | rfl | (simp; done) | (simp [*]; done)), H', ⟨by have := HJ11.out; first | omega | exact Nat.le_refl _⟩, ⟨by (with_reducible repeat (first | apply Kd.R_alloc | apply Kd.R_drewN | apply Kd.R_drew)); exact Kd.R_mono HO_119001.out (fun _ hk => ⟨hk.1, hk.2.1⟩)⟩, ⟨by (with_reducible repeat (first | apply Kd.R_alloc | apply Kd.R_drewN | apply Kd.R_drew)); exact Kd.R_mono HO_119002.out (fun _ hk => ⟨hk.1, hk.2.1⟩)⟩, ⟨by (with_reducible repeat (first | apply Kd.R_alloc | apply Kd.R_drewN | apply Kd.R_drew)); exact Kd.R_mono HO_127001.out (fun _ hk => ⟨hk.1.1, hk.1.2⟩)⟩, ⟨by (with_reducible repeat (first | apply Kd.R_alloc | apply Kd.R_drewN | apply Kd.R_drew)); exact Kd.R_mono HO_127002.out (fun _ hk => ⟨hk.1.1, hk.1.2⟩)⟩, ⟨by (with_reducible repeat (first | apply Kd.R_alloc | apply Kd.R_drewN | apply Kd.R_drew)); exact Kd.R_mono HO_136001.out (fun _ hk => ⟨hk.1, hk.2.1⟩)⟩, ⟨by (with_reducible repeat (first | apply Kd.R_alloc | apply Kd.R_drewN | apply Kd.R_drew)); exact Kd.R_mono HO_136002.out (fun _ hk => ⟨hk.1, hk.2.1⟩)⟩, ⟨by (with_reducible repeat (first | refine blk_drewN ?_ _ | refine blk_drew ?_ | refine blk_alloc ?_ _)); exact BK101.out⟩, ⟨by (with_reducible repeat (first | refine blk_drewN ?_ _ | refine blk_drew ?_ | refine blk_alloc ?_ _)); exact BK118.out⟩, ⟨by (with_reducible repeat (first | refine blk_drewN ?_ _ | refine blk_drew ?_ | refine blk_alloc ?_ _)); exact BK126.out⟩, ⟨by (with_reducible repeat (first | refine blk_drewN ?_ _ | refine blk_drew ?_ | refine blk_alloc ?_ _)); exact BK135.out⟩, ⟨by repeat (first | (with_reducible first | exact HB.out | apply below_alloc | apply pw_below_drewN | apply below_drew1 | refine below_set ?_ GE101.out | refine below_set ?_ GE118.out | refine below_set ?_ GE126.out | refine below_set ?_ GE135.out) | exact HB.out)⟩⟩
            case rest =>
              clear HC65
              try clear c1
              try clear c2
              try clear p2
              try clear c3
              try clear c4
              try clear c4b0
              try clear c5
              try clear c6
              try clear c7
              try clear c8
              try clear c9
              try clear c10
              try clear c11
              try clear c12
              try clear c13
              try clear c14
              try clear c22
              try clear c29
              try clear c30
              try clear c36
              try clear c37
              try clear c38
              try clear c43
              try clear c44
              try clear c45
              try clear c46
              try clear c48
              try clear c49
              try clear c52
              try clear c53
              try clear c54
              try clear c56
              try clear c57
              try clear c60
              try clear c63
              try clear c71
              try clear c72
              try clear c73
              try clear c76
              try clear c76b0
              try clear c78
              try clear c79
              try clear c80
              try clear c81
              try clear c83
              try clear c84
              try clear c87
              try clear c88
              try clear c89
              try clear c91
              try clear c92
              try clear hcz14_0
              try clear hcz14_1
              try clear hcz14_2
              try clear hcz16_0
              try clear hcz16_1
              try clear hcz16_2
              try clear hcz23_0
              try clear hcz23_1
              try clear hcz23_2
              try clear hcz26_0
              try clear hcz26_1
              try clear hcz26_2
              try clear hcz31_0
              try clear hcz31_1
              try clear hcz31_2
              try clear hcz39_0
              try clear hcz39_1
              try clear hcz39_2
              try clear hcz47_0
              try clear hcz47_1
              try clear hcz47_2
              try clear hcz50_0
              try clear hcz50_1
              try clear hcz50_2
              try clear hcz55_0
              try clear hcz55_1
              try clear hcz55_2
              try clear hcz58_0
              try clear hcz58_1
              try clear hcz58_2
              try clear hcz6_0
              try clear hcz6_1
              try clear hcz6_2
              try clear hcz74_0
              try clear hcz74_1
              try clear hcz74_2
              try clear hcz82_0
              try clear hcz82_1
              try clear hcz82_2
              try clear hcz85_0
              try clear hcz85_1
              try clear hcz85_2
              try clear hcz90_0
              try clear hcz90_1
              try clear hcz90_2
              try clear hcz93_0
              try clear hcz93_1
              try clear hcz93_2
              try clear hfz14_0
              try clear hfz14_1
              try clear hfz14_2
              try clear hfz16_0
              try clear hfz16_1
              try clear hfz16_2
              try clear hfz23_0
              try clear hfz23_1
              try clear hfz23_2
              try clear hfz26_0
              try clear hfz26_1
              try clear hfz26_2
              try clear hfz31_0
              try clear hfz31_1
              try clear hfz31_2
              try clear hfz39_0
              try clear hfz39_1
              try clear hfz39_2
              try clear hfz47_0
              try clear hfz47_1
              try clear hfz47_2
              try clear hfz50_0
              try clear hfz50_1
              try clear hfz50_2
              try clear hfz55_0
              try clear hfz55_1
              try clear hfz55_2
              try clear hfz58_0
              try clear hfz58_1
              try clear hfz58_2
              try clear hfz6_0
              try clear hfz6_1
              try clear hfz6_2
              try clear hfz74_0
              try clear hfz74_1
              try clear hfz74_2
              try clear hfz82_0
              try clear hfz82_1
              try clear hfz82_2
              try clear hfz85_0
              try clear hfz85_1
              try clear hfz85_2
              try clear hfz90_0
              try clear hfz90_1
              try clear hfz90_2
              try clear hfz93_0
              try clear hfz93_1
              try clear hfz93_2
              try clear p2
              obtain ⟨kq, x65_64, rfl, HA, HJ64, HO_119001, HO_119002, HO_127001, HO_127002, HO_136001, HO_136002, BK101, BK118, BK126, BK135, HB⟩ := hcut
              have hl127001_64 := (Kd.R_reads' HO_127001.out).1
              rw [hl127001_64] at HO_127001
              (try simp only [hl127001_64])
              (try simp only [hl127001_64] at BK101)
              (try simp only [hl127001_64] at BK118)
              (try simp only [hl127001_64] at BK126)
              (try simp only [hl127001_64] at BK135)
              (try simp only [hl127001_64] at HO_119001)
              (try simp only [hl127001_64] at HO_119002)
              (try simp only [hl127001_64] at HO_127002)
              (try simp only [hl127001_64] at HO_136001)
              (try simp only [hl127001_64] at HO_136002)
              have hl127002_64 := (Kd.R_reads' HO_127002.out).1
              rw [hl127002_64] at HO_127002
              (try simp only [hl127002_64])
              (try simp only [hl127002_64] at BK101)
              (try simp only [hl127002_64] at BK118)
              (try simp only [hl127002_64] at BK126)
              (try simp only [hl127002_64] at BK135)
              (try simp only [hl127002_64] at HO_119001)
              (try simp only [hl127002_64] at HO_119002)
              (try simp only [hl127002_64] at HO_127001)
              (try simp only [hl127002_64] at HO_136001)
              (try simp only [hl127002_64] at HO_136002)
              cases kq with
              | zero => exact absurd HA.out (by simp [laws_FnExactFlipGate.j1])
              | succ kj64 =>
                have H := HA.out
                clear HA
                simp only [laws_FnExactFlipGate.j1] at H
                by_cases c95 : x65_64 = true
                · subst c95
                  have H1 : (none) = some r := by rw [if_pos rfl] at H; exact H
                  clear H
                  have H := H1
                  clear H1
                  exact absurd H (by simp)
                · replace c95 := Bool.eq_false_iff.mpr c95
                  subst c95
                  have H1 : ((laws_markCircuit.f kj64 t127 t128 t131 1).bind fun bt149 => ((laws_heldCircuit.f kj64 t127 bt149.2.1 bt149.2.2 1).bind fun t152 => (if t152 < 0 then (none) else (if t152 = bt149.1 then ((laws_toCircuit.f kj64 a0_0 l0_1 l0_2).bind fun bt153 => ((impl_FlipGate.f kj64 bt153.1 bt153.2.1 bt153.2.2 a1).bind fun bt160 => ((laws_eqCircuit.f kj64 bt160.1 bt160.2.1 bt160.2.2.1 t110 t111 t114).bind fun t169 => (if t169 = true then (laws_FnExactFlipGate.j2 kj64 bt149.1 (bt160.2.2.2 != t117) t127 bt149.2.1 bt149.2.2) else (laws_FnExactFlipGate.j2 kj64 bt149.1 true t127 bt149.2.1 bt149.2.2))))) else (none))))) = some r := by rw [if_neg (show ¬ (false = true) by decide)] at H; exact H
                  clear H
                  have H := H1
                  clear H1
                  replace H := Option.bind_eq_some_iff.mp H
                  obtain ⟨⟨t149, t150, t151⟩, A960, H⟩ := H
                  replace H : ((laws_heldCircuit.f kj64 t127 t150 t151 1).bind fun t152 => (if t152 < 0 then (none) else (if t152 = t149 then ((laws_toCircuit.f kj64 a0_0 l0_1 l0_2).bind fun bt153 => ((impl_FlipGate.f kj64 bt153.1 bt153.2.1 bt153.2.2 a1).bind fun bt160 => ((laws_eqCircuit.f kj64 bt160.1 bt160.2.1 bt160.2.2.1 t110 t111 t114).bind fun t169 => (if t169 = true then (laws_FnExactFlipGate.j2 kj64 t149 (bt160.2.2.2 != t117) t127 t150 t151) else (laws_FnExactFlipGate.j2 kj64 t149 true t127 t150 t151))))) else (none)))) = some r := H
                  have A96 := Aside0.mk A960
                  clear A960
                  replace H := Option.bind_eq_some_iff.mp H
                  obtain ⟨t152, A970, H⟩ := H
                  replace H : (if t152 < 0 then (none) else (if t152 = t149 then ((laws_toCircuit.f kj64 a0_0 l0_1 l0_2).bind fun bt153 => ((impl_FlipGate.f kj64 bt153.1 bt153.2.1 bt153.2.2 a1).bind fun bt160 => ((laws_eqCircuit.f kj64 bt160.1 bt160.2.1 bt160.2.2.1 t110 t111 t114).bind fun t169 => (if t169 = true then (laws_FnExactFlipGate.j2 kj64 t149 (bt160.2.2.2 != t117) t127 t150 t151) else (laws_FnExactFlipGate.j2 kj64 t149 true t127 t150 t151))))) else (none))) = some r := H
                  have A97 := Aside0.mk A970
                  clear A970
                  by_cases c98 : t152 < 0
                  · rw [if_pos c98] at H
                    exact absurd H (by simp)
                  · rw [if_neg c98] at H
                    have c98b0 : decide (t152 < 0) = false := decide_eq_false c98
                    clear c98
                    by_cases c99 : t152 = t149
                    · rw [if_pos c99] at H
                      have c99b0 : (t152 == t149) = true := beq_iff_eq.mpr c99
                      have c99b1 : (t152 != t149) = false := bne_eq_false_iff_eq.mpr c99
                      clear c99
                      replace H := Option.bind_eq_some_iff.mp H
                      obtain ⟨⟨t153, t154, t157⟩, A1000, H⟩ := H
                      replace H : ((impl_FlipGate.f kj64 t153 t154 t157 a1).bind fun bt160 => ((laws_eqCircuit.f kj64 bt160.1 bt160.2.1 bt160.2.2.1 t110 t111 t114).bind fun t169 => (if t169 = true then (laws_FnExactFlipGate.j2 kj64 t149 (bt160.2.2.2 != t117) t127 t150 t151) else (laws_FnExactFlipGate.j2 kj64 t149 true t127 t150 t151)))) = some r := H
                      have A100 := Aside0.mk A1000
                      clear A1000
                      replace H := Option.bind_eq_some_iff.mp H
                      obtain ⟨⟨t160, t161, t164, t167⟩, A1010, H⟩ := H
                      replace H : ((laws_eqCircuit.f kj64 t160 t161 t164 t110 t111 t114).bind fun t169 => (if t169 = true then (laws_FnExactFlipGate.j2 kj64 t149 (t167 != t117) t127 t150 t151) else (laws_FnExactFlipGate.j2 kj64 t149 true t127 t150 t151))) = some r := H
                      have A101 := Aside0.mk A1010
                      clear A1010
                      have HC102 := Aside0.mk H
                      clear H
                      have hnb103 := NB135_101.out
                      have hnc103 := NB101_135.out
                      have hnb104 := NB135_118.out
                      have hnc104 := NB118_135.out
                      have hnb105 := NB135_126.out
                      have hnc105 := NB126_135.out
                      have hcz106_0 : wc.cell? ⟨gb135, 0, none⟩ = some (.int .i8 t127) := (blk_cell BK135.out 0).trans rfl
                      have hcz106_1 : wc.cell? ⟨gb135, 1, none⟩ = some (.slice Ao40 t128.length co40) := (blk_cell BK135.out 1).trans rfl
                      have hcz106_2 : wc.cell? ⟨gb135, 2, none⟩ = some (.slice Ao41 t131.length co41) := (blk_cell BK135.out 2).trans rfl
                      have hfz106_0 := blk_frozen BK135.out 0
                      have hfz106_1 := blk_frozen BK135.out 1
                      have hfz106_2 := blk_frozen BK135.out 2
                      go_upto_region 25 with (first | ((with_reducible refine gate_callee (f := 14) rfl ?_); refine goesL_ (some 68) rfl rfl Try.func14 (by kernel_rfl) rfl #[.agg #[.int .i8 t127, .slice Ao40 t128.length co40, .slice Ao41 t131.length co41], .int .i64 1] rfl (by (try simp only [List.map_toArray, List.map_cons, List.map_nil]); first | done | rfl | (simp only [List.length_drop, List.length_take]; rfl)) ?_; (with_reducible refine (laws_markCircuit.calls kj64 t127 (fun k_ => some k_ = (.slice Ao40 t128.length co40 : Value).ownBlock) (.slice Ao40 t128.length co40) t128 (fun k_ => some k_ = (.slice Ao41 t131.length co41 : Value).ownBlock) (.slice Ao41 t131.length co41) t131 1 t149 t150 t151 w _ ?side1 ?side2 ?side3 A96.out).mono ?_); (case side1 => repeat (first | (with_reducible first | exact HB.out | apply below_alloc | apply pw_below_drewN | apply below_drew1 | refine below_set ?_ GE101.out | refine below_set ?_ GE118.out | refine below_set ?_ GE126.out | refine below_set ?_ GE135.out) | exact HB.out)); (case side2 => exact Kd.R_tight rfl HO_136001.out); (case side3 => exact Kd.R_tight rfl HO_136002.out); rintro e w107 ⟨rfl, hy0, hy1, hb, hkp⟩; refine ⟨_, rfl, ?_⟩; have n0_ := Aside0.mk (Kd.R_mono (ok' := fun k_ => some k_ ≠ (.slice Ao32 t146.length co32 : Value).ownBlock ∧ some k_ ≠ (.slice Ao40 t128.length co40 : Value).ownBlock) (Kd.R_keptB ((Kd.R_apart' HO_119001.out (Kd.R_typed HO_136002.out) (by decide))) hkp (fun k_ hk_ hs_ => Or.elim hs_ (fun e_ => (hk_.1.2) e_) (fun e_ => (hk_.2) e_))) (fun k_ hk_ => ⟨hk_.1.1.1, hk_.1.1.2⟩)); have n1_ := Aside0.mk (Kd.R_mono (ok' := fun k_ => some k_ ≠ (.slice Ao33 t147.length co33 : Value).ownBlock ∧ some k_ ≠ (.slice Ao41 t131.length co41 : Value).ownBlock) (Kd.R_keptB ((Kd.R_apart' HO_119002.out (Kd.R_typed HO_136001.out) (by decide))) hkp (fun k_ hk_ hs_ => Or.elim hs_ (fun e_ => (hk_.2) e_) (fun e_ => (hk_.1.2) e_))) (fun k_ hk_ => ⟨hk_.1.1.1, hk_.1.1.2⟩)); have n2_ := Aside0.mk (Kd.R_mono (ok' := fun k_ => some k_ ≠ (.slice Ao24 t111.length co24 : Value).ownBlock ∧ some k_ ≠ (.slice Ao40 t128.length co40 : Value).ownBlock) (Kd.R_keptB ((Kd.R_apart' HO_127001.out (Kd.R_typed HO_136002.out) (by decide))) hkp (fun k_ hk_ hs_ => Or.elim hs_ (fun e_ => (hk_.1.2) e_) (fun e_ => (hk_.2) e_))) (fun k_ hk_ => ⟨hk_.1.1.1, hk_.1.1.2⟩)); have n3_ := Aside0.mk (Kd.R_mono (ok' := fun k_ => some k_ ≠ (.slice Ao25 t114.length co25 : Value).ownBlock ∧ some k_ ≠ (.slice Ao41 t131.length co41 : Value).ownBlock) (Kd.R_keptB ((Kd.R_apart' HO_127002.out (Kd.R_typed HO_136001.out) (by decide))) hkp (fun k_ hk_ hs_ => Or.elim hs_ (fun e_ => (hk_.2) e_) (fun e_ => (hk_.1.2) e_))) (fun k_ hk_ => ⟨hk_.1.1.1, hk_.1.1.2⟩)); have n4_ := Aside0.mk (Kd.R_reok rfl hy0 (fun k_ e_ => HO_136001.out.1 k_ e_)); have n5_ := Aside0.mk (Kd.R_reok rfl hy1 (fun k_ e_ => HO_136002.out.1 k_ e_)); have n6_ := Aside0.mk (blk_kept (by (with_reducible repeat (first | refine blk_drewN ?_ _ | refine blk_drew ?_ | refine blk_alloc ?_ _)); exact BK101.out) hkp (fun hs_ => Or.elim hs_ (fun e_ => (fun e_ => (Kd.R_ne HO_136001.out BK101.out (by decide)) e_) e_) (fun e_ => (fun e_ => (Kd.R_ne HO_136002.out BK101.out (by decide)) e_) e_))); have n7_ := Aside0.mk (blk_kept (by (with_reducible repeat (first | refine blk_drewN ?_ _ | refine blk_drew ?_ | refine blk_alloc ?_ _)); exact BK118.out) hkp (fun hs_ => Or.elim hs_ (fun e_ => (fun e_ => (Kd.R_ne HO_136001.out BK118.out (by decide)) e_) e_) (fun e_ => (fun e_ => (Kd.R_ne HO_136002.out BK118.out (by decide)) e_) e_))); have n8_ := Aside0.mk (blk_kept (by (with_reducible repeat (first | refine blk_drewN ?_ _ | refine blk_drew ?_ | refine blk_alloc ?_ _)); exact BK126.out) hkp (fun hs_ => Or.elim hs_ (fun e_ => (fun e_ => (Kd.R_ne HO_136001.out BK126.out (by decide)) e_) e_) (fun e_ => (fun e_ => (Kd.R_ne HO_136002.out BK126.out (by decide)) e_) e_))); have n9_ := Aside0.mk (blk_kept (by (with_reducible repeat (first | refine blk_drewN ?_ _ | refine blk_drew ?_ | refine blk_alloc ?_ _)); exact BK135.out) hkp (fun hs_ => Or.elim hs_ (fun e_ => (fun e_ => (Kd.R_ne HO_136001.out BK135.out (by decide)) e_) e_) (fun e_ => (fun e_ => (Kd.R_ne HO_136002.out BK135.out (by decide)) e_) e_))); have n10_ := Aside0.mk (hb); clear HO_119001; clear HO_119002; clear HO_127001; clear HO_127002; clear HO_136001; clear HO_136002; clear BK101; clear BK118; clear BK126; clear BK135; clear HB; have HO_119001 := n0_; have HO_119002 := n1_; have HO_127001 := n2_; have HO_127002 := n3_; have HO_136001 := n4_; have HO_136002 := n5_; have BK101 := n6_; have BK118 := n7_; have BK126 := n8_; have BK135 := n9_; have HB := n10_; clear n0_ n1_ n2_ n3_ n4_ n5_ n6_ n7_ n8_ n9_ n10_; (try clear hb); (try clear hkp); (try clear hy0); (try clear hy1); have hcz108_0 : w107.cell? ⟨gb135, 0, none⟩ = some (.int .i8 t127) := (blk_cell BK135.out 0).trans rfl; have hcz108_1 : w107.cell? ⟨gb135, 1, none⟩ = some (.slice Ao40 t128.length co40) := (blk_cell BK135.out 1).trans rfl; have hcz108_2 : w107.cell? ⟨gb135, 2, none⟩ = some (.slice Ao41 t131.length co41) := (blk_cell BK135.out 2).trans rfl; have hfz108_0 := blk_frozen BK135.out 0; have hfz108_1 := blk_frozen BK135.out 1; have hfz108_2 := blk_frozen BK135.out 2) | ((with_reducible refine gate_callee (f := 15) rfl ?_); refine goesL_ (some 71) rfl rfl Try.func15 (by kernel_rfl) rfl #[.agg #[.int .i8 t127, .slice Ao40 t150.length co40, .slice Ao41 t151.length co41], .int .i64 1] rfl (by (try simp only [List.map_toArray, List.map_cons, List.map_nil]); first | done | (rw [show t150.length = t128.length from (Kd.R_reads' HO_136001.out).1.symm, show t151.length = t131.length from (Kd.R_reads' HO_136002.out).1.symm] <;> rfl) | rfl | (simp only [List.length_drop, List.length_take]; rfl)) ?_; (with_reducible refine (laws_heldCircuit.calls kj64 t127 _ _ t150 _ _ t151 1 t152 _ ?side1 ?side2 ?side3 ?side4 A97.out).mono ?_); (case side1 => repeat (first | exact (Kd.R_reads' HO_136001.out).2.2 | (with_reducible refine Kd.C_alloc ?_ _) | (with_reducible refine Kd.C_drewN ?_ _) | (with_reducible refine Kd.C_drew ?_))); (case side2 => rw [show t150.length = t128.length from (Kd.R_reads' HO_136001.out).1.symm]; exact (Kd.R_reads' HO_136001.out).2.1); (case side3 => repeat (first | exact (Kd.R_reads' HO_136002.out).2.2 | (with_reducible refine Kd.C_alloc ?_ _) | (with_reducible refine Kd.C_drewN ?_ _) | (with_reducible refine Kd.C_drew ?_))); (case side4 => rw [show t151.length = t131.length from (Kd.R_reads' HO_136002.out).1.symm]; exact (Kd.R_reads' HO_136002.out).2.1); rintro e w109 ⟨rfl, hb⟩; refine ⟨_, rfl, ?_⟩; have n0_ := Aside0.mk (Kd.R_below (by (with_reducible repeat (first | apply Kd.R_alloc | apply Kd.R_drewN | apply Kd.R_drew)); exact HO_119001.out) hb); have n1_ := Aside0.mk (Kd.R_below (by (with_reducible repeat (first | apply Kd.R_alloc | apply Kd.R_drewN | apply Kd.R_drew)); exact HO_119002.out) hb); have n2_ := Aside0.mk (Kd.R_below (by (with_reducible repeat (first | apply Kd.R_alloc | apply Kd.R_drewN | apply Kd.R_drew)); exact HO_127001.out) hb); have n3_ := Aside0.mk (Kd.R_below (by (with_reducible repeat (first | apply Kd.R_alloc | apply Kd.R_drewN | apply Kd.R_drew)); exact HO_127002.out) hb); have n4_ := Aside0.mk (Kd.R_below (by (with_reducible repeat (first | apply Kd.R_alloc | apply Kd.R_drewN | apply Kd.R_drew)); exact HO_136001.out) hb); have n5_ := Aside0.mk (Kd.R_below (by (with_reducible repeat (first | apply Kd.R_alloc | apply Kd.R_drewN | apply Kd.R_drew)); exact HO_136002.out) hb); have n6_ := Aside0.mk (blk_below (g := gb101) (o := .cells #[.int .i8 a0_0, .slice A0_1 l0_1.length c0_1, .slice A0_2 l0_2.length c0_2] 26 (0, 0)) (by (with_reducible repeat (first | refine blk_drewN ?_ _ | refine blk_drew ?_ | refine blk_alloc ?_ _)); exact BK101.out) hb); have n7_ := Aside0.mk (blk_below (g := gb118) (o := .cells #[.int .i8 t110, .slice Ao24 t111.length co24, .slice Ao25 t114.length co25] 30 (0, 0)) (by (with_reducible repeat (first | refine blk_drewN ?_ _ | refine blk_drew ?_ | refine blk_alloc ?_ _)); exact BK118.out) hb); have n8_ := Aside0.mk (blk_below (g := gb126) (o := .cells #[.int .i8 t119, .slice Ao32 t146.length co32, .slice Ao33 t147.length co33] 30 (0, 0)) (by (with_reducible repeat (first | refine blk_drewN ?_ _ | refine blk_drew ?_ | refine blk_alloc ?_ _)); exact BK126.out) hb); have n9_ := Aside0.mk (blk_below (g := gb135) (o := .cells #[.int .i8 t127, .slice Ao40 t128.length co40, .slice Ao41 t131.length co41] 30 (0, 0)) (by (with_reducible repeat (first | refine blk_drewN ?_ _ | refine blk_drew ?_ | refine blk_alloc ?_ _)); exact BK135.out) hb); have n10_ := Aside0.mk (below_step (by repeat (first | (with_reducible first | exact HB.out | apply below_alloc | apply pw_below_drewN | apply below_drew1 | refine below_set ?_ GE101.out | refine below_set ?_ GE118.out | refine below_set ?_ GE126.out | refine below_set ?_ GE135.out) | exact HB.out)) hb); clear HO_119001; clear HO_119002; clear HO_127001; clear HO_127002; clear HO_136001; clear HO_136002; clear BK101; clear BK118; clear BK126; clear BK135; clear HB; have HO_119001 := n0_; have HO_119002 := n1_; have HO_127001 := n2_; have HO_127002 := n3_; have HO_136001 := n4_; have HO_136002 := n5_; have BK101 := n6_; have BK118 := n7_; have BK126 := n8_; have BK135 := n9_; have HB := n10_; clear n0_ n1_ n2_ n3_ n4_ n5_ n6_ n7_ n8_ n9_ n10_; (try clear hb); (try clear hb2); (try clear hk); (try clear hi); have hnb110 := NB101_118.out; have hnc110 := NB118_101.out; have hnb111 := NB101_126.out; have hnc111 := NB126_101.out; have hcz112_0 : w109.cell? ⟨gb101, 0, none⟩ = some (.int .i8 a0_0) := (blk_cell BK101.out 0).trans rfl; have hcz112_1 : w109.cell? ⟨gb101, 1, none⟩ = some (.slice A0_1 l0_1.length c0_1) := (blk_cell BK101.out 1).trans rfl; have hcz112_2 : w109.cell? ⟨gb101, 2, none⟩ = some (.slice A0_2 l0_2.length c0_2) := (blk_cell BK101.out 2).trans rfl; have hfz112_0 := blk_frozen BK101.out 0; have hfz112_1 := blk_frozen BK101.out 1; have hfz112_2 := blk_frozen BK101.out 2) | ((with_reducible refine gate_callee (f := 11) rfl ?_); refine goesL_ (some 79) rfl rfl Try.func11 (by kernel_rfl) rfl #[.agg #[.int .i8 a0_0, .slice A0_1 l0_1.length c0_1, .slice A0_2 l0_2.length c0_2]] rfl (by (try simp only [List.map_toArray, List.map_cons, List.map_nil]); first | done | rfl | (simp only [List.length_drop, List.length_take]; rfl)) ?_; (with_reducible refine (laws_toCircuit.calls kj64 a0_0 _ _ l0_1 _ _ l0_2 t153 t154 t157 _ ?side1 ?side2 ?side3 ?side4 A100.out).mono ?_); (case side1 => repeat (first | exact (Kd.C_below HR0_1.out HB.out) | (with_reducible refine Kd.C_alloc ?_ _) | (with_reducible refine Kd.C_drewN ?_ _) | (with_reducible refine Kd.C_drew ?_))); (case side2 => exact HC0_1.out); (case side3 => repeat (first | exact (Kd.C_below HR0_2.out HB.out) | (with_reducible refine Kd.C_alloc ?_ _) | (with_reducible refine Kd.C_drewN ?_ _) | (with_reducible refine Kd.C_drew ?_))); (case side4 => exact HC0_2.out); rintro e w113 ⟨v155, v158, rfl, ho0, ho1, hb⟩; refine ⟨_, rfl, ?_⟩; have n0_ := Aside0.mk (Kd.R_elder' (by (with_reducible repeat (first | apply Kd.R_alloc | apply Kd.R_drewN | apply Kd.R_drew)); exact HO_119001.out) (Kd.R_base ho0) hb); have n1_ := Aside0.mk (Kd.R_elder' (by (with_reducible repeat (first | apply Kd.R_alloc | apply Kd.R_drewN | apply Kd.R_drew)); exact HO_119002.out) (Kd.R_base ho1) hb); have n2_ := Aside0.mk (Kd.R_elder' (by (with_reducible repeat (first | apply Kd.R_alloc | apply Kd.R_drewN | apply Kd.R_drew)); exact HO_127001.out) (Kd.R_base ho0) hb); have n3_ := Aside0.mk (Kd.R_elder' (by (with_reducible repeat (first | apply Kd.R_alloc | apply Kd.R_drewN | apply Kd.R_drew)); exact HO_127002.out) (Kd.R_base ho1) hb); have n4_ := Aside0.mk (Kd.R_elder' (by (with_reducible repeat (first | apply Kd.R_alloc | apply Kd.R_drewN | apply Kd.R_drew)); exact HO_136001.out) (Kd.R_base ho0) hb); have n5_ := Aside0.mk (Kd.R_elder' (by (with_reducible repeat (first | apply Kd.R_alloc | apply Kd.R_drewN | apply Kd.R_drew)); exact HO_136002.out) (Kd.R_base ho1) hb); have n6_ := Aside0.mk (Kd.R_lower (Kd.R_new' (Kd.R_new' (Kd.R_new' ho0 (Kd.R_lt (by (with_reducible repeat (first | apply Kd.R_alloc | apply Kd.R_drewN | apply Kd.R_drew)); exact HO_119001.out))) (Kd.R_lt (by (with_reducible repeat (first | apply Kd.R_alloc | apply Kd.R_drewN | apply Kd.R_drew)); exact HO_127001.out))) (Kd.R_lt (by (with_reducible repeat (first | apply Kd.R_alloc | apply Kd.R_drewN | apply Kd.R_drew)); exact HO_136001.out))) (below_size (by repeat (first | (with_reducible first | exact HB.out | apply below_alloc | apply pw_below_drewN | apply below_drew1 | refine below_set ?_ GE101.out | refine below_set ?_ GE118.out | refine below_set ?_ GE126.out | refine below_set ?_ GE135.out) | exact HB.out)))); have n7_ := Aside0.mk (Kd.R_lower (Kd.R_new' (Kd.R_new' (Kd.R_new' ho1 (Kd.R_lt (by (with_reducible repeat (first | apply Kd.R_alloc | apply Kd.R_drewN | apply Kd.R_drew)); exact HO_119002.out))) (Kd.R_lt (by (with_reducible repeat (first | apply Kd.R_alloc | apply Kd.R_drewN | apply Kd.R_drew)); exact HO_127002.out))) (Kd.R_lt (by (with_reducible repeat (first | apply Kd.R_alloc | apply Kd.R_drewN | apply Kd.R_drew)); exact HO_136002.out))) (below_size (by repeat (first | (with_reducible first | exact HB.out | apply below_alloc | apply pw_below_drewN | apply below_drew1 | refine below_set ?_ GE101.out | refine below_set ?_ GE118.out | refine below_set ?_ GE126.out | refine below_set ?_ GE135.out) | exact HB.out)))); have n8_ := Aside0.mk (blk_below (g := gb101) (o := .cells #[.int .i8 a0_0, .slice A0_1 l0_1.length c0_1, .slice A0_2 l0_2.length c0_2] 26 (0, 0)) (by (with_reducible repeat (first | refine blk_drewN ?_ _ | refine blk_drew ?_ | refine blk_alloc ?_ _)); exact BK101.out) hb); have n9_ := Aside0.mk (blk_below (g := gb118) (o := .cells #[.int .i8 t110, .slice Ao24 t111.length co24, .slice Ao25 t114.length co25] 30 (0, 0)) (by (with_reducible repeat (first | refine blk_drewN ?_ _ | refine blk_drew ?_ | refine blk_alloc ?_ _)); exact BK118.out) hb); have n10_ := Aside0.mk (blk_below (g := gb126) (o := .cells #[.int .i8 t119, .slice Ao32 t146.length co32, .slice Ao33 t147.length co33] 30 (0, 0)) (by (with_reducible repeat (first | refine blk_drewN ?_ _ | refine blk_drew ?_ | refine blk_alloc ?_ _)); exact BK126.out) hb); have n11_ := Aside0.mk (blk_below (g := gb135) (o := .cells #[.int .i8 t127, .slice Ao40 t128.length co40, .slice Ao41 t131.length co41] 30 (0, 0)) (by (with_reducible repeat (first | refine blk_drewN ?_ _ | refine blk_drew ?_ | refine blk_alloc ?_ _)); exact BK135.out) hb); have n12_ := Aside0.mk (below_step (by repeat (first | (with_reducible first | exact HB.out | apply below_alloc | apply pw_below_drewN | apply below_drew1 | refine below_set ?_ GE101.out | refine below_set ?_ GE118.out | refine below_set ?_ GE126.out | refine below_set ?_ GE135.out) | exact HB.out)) hb); clear HO_119001; clear HO_119002; clear HO_127001; clear HO_127002; clear HO_136001; clear HO_136002; clear BK101; clear BK118; clear BK126; clear BK135; clear HB; have HO_119001 := n0_; have HO_119002 := n1_; have HO_127001 := n2_; have HO_127002 := n3_; have HO_136001 := n4_; have HO_136002 := n5_; have HO156 := n6_; have HO159 := n7_; have BK101 := n8_; have BK118 := n9_; have BK126 := n10_; have BK135 := n11_; have HB := n12_; clear n0_ n1_ n2_ n3_ n4_ n5_ n6_ n7_ n8_ n9_ n10_ n11_ n12_; (try clear hb); (try clear hb2); (try clear hk); (try clear hi); (try clear ho0); (try clear ho1); obtain ⟨Ao114, co114, eo114⟩ := Kd.R_slice HO156.out; subst eo114; obtain ⟨Ao115, co115, eo115⟩ := Kd.R_slice HO159.out; subst eo115) | ((with_reducible refine gate_callee (f := 12) rfl ?_); refine goesL_ (some 81) rfl rfl Try.func12 (by kernel_rfl) rfl #[.agg #[.int .i8 t153, .slice Ao114 t154.length co114, .slice Ao115 t157.length co115], .int .i64 a1] rfl (by (try simp only [List.map_toArray, List.map_cons, List.map_nil]); first | done | rfl | (simp only [List.length_drop, List.length_take]; rfl)) ?_; (with_reducible refine (impl_FlipGate.calls kj64 t153 _ _ t154 _ _ t157 a1 t160 t161 t164 t167 _ ?side1 ?side2 ?side3 ?side4 A101.out).mono ?_); (case side1 => repeat (first | exact (Kd.R_reads' HO156.out).2.2 | (with_reducible refine Kd.C_alloc ?_ _) | (with_reducible refine Kd.C_drewN ?_ _) | (with_reducible refine Kd.C_drew ?_))); (case side2 => exact (Kd.R_reads' HO156.out).2.1); (case side3 => repeat (first | exact (Kd.R_reads' HO159.out).2.2 | (with_reducible refine Kd.C_alloc ?_ _) | (with_reducible refine Kd.C_drewN ?_ _) | (with_reducible refine Kd.C_drew ?_))); (case side4 => exact (Kd.R_reads' HO159.out).2.1); rintro e w116 ⟨v162, v165, rfl, ho0, ho1, hb⟩; refine ⟨_, rfl, ?_⟩; have n0_ := Aside0.mk (Kd.R_elder' (by (with_reducible repeat (first | apply Kd.R_alloc | apply Kd.R_drewN | apply Kd.R_drew)); exact HO_119001.out) (Kd.R_base ho0) hb); have n1_ := Aside0.mk (Kd.R_elder' (by (with_reducible repeat (first | apply Kd.R_alloc | apply Kd.R_drewN | apply Kd.R_drew)); exact HO_119002.out) (Kd.R_base ho1) hb); have n2_ := Aside0.mk (Kd.R_elder' (by (with_reducible repeat (first | apply Kd.R_alloc | apply Kd.R_drewN | apply Kd.R_drew)); exact HO_127001.out) (Kd.R_base ho0) hb); have n3_ := Aside0.mk (Kd.R_elder' (by (with_reducible repeat (first | apply Kd.R_alloc | apply Kd.R_drewN | apply Kd.R_drew)); exact HO_127002.out) (Kd.R_base ho1) hb); have n4_ := Aside0.mk (Kd.R_elder' (by (with_reducible repeat (first | apply Kd.R_alloc | apply Kd.R_drewN | apply Kd.R_drew)); exact HO_136001.out) (Kd.R_base ho0) hb); have n5_ := Aside0.mk (Kd.R_elder' (by (with_reducible repeat (first | apply Kd.R_alloc | apply Kd.R_drewN | apply Kd.R_drew)); exact HO_136002.out) (Kd.R_base ho1) hb); have n6_ := Aside0.mk (Kd.R_elder' (by (with_reducible repeat (first | apply Kd.R_alloc | apply Kd.R_drewN | apply Kd.R_drew)); exact HO156.out) (Kd.R_base ho0) hb); have n7_ := Aside0.mk (Kd.R_elder' (by (with_reducible repeat (first | apply Kd.R_alloc | apply Kd.R_drewN | apply Kd.R_drew)); exact HO159.out) (Kd.R_base ho1) hb); have n8_ := Aside0.mk (Kd.R_lower (Kd.R_new' (Kd.R_new' (Kd.R_new' (Kd.R_new' ho0 (Kd.R_lt (by (with_reducible repeat (first | apply Kd.R_alloc | apply Kd.R_drewN | apply Kd.R_drew)); exact HO_119001.out))) (Kd.R_lt (by (with_reducible repeat (first | apply Kd.R_alloc | apply Kd.R_drewN | apply Kd.R_drew)); exact HO_127001.out))) (Kd.R_lt (by (with_reducible repeat (first | apply Kd.R_alloc | apply Kd.R_drewN | apply Kd.R_drew)); exact HO_136001.out))) (Kd.R_lt (by (with_reducible repeat (first | apply Kd.R_alloc | apply Kd.R_drewN | apply Kd.R_drew)); exact HO156.out))) (below_size (by repeat (first | (with_reducible first | exact HB.out | apply below_alloc | apply pw_below_drewN | apply below_drew1 | refine below_set ?_ GE101.out | refine below_set ?_ GE118.out | refine below_set ?_ GE126.out | refine below_set ?_ GE135.out) | exact HB.out)))); have n9_ := Aside0.mk (Kd.R_lower (Kd.R_new' (Kd.R_new' (Kd.R_new' (Kd.R_new' ho1 (Kd.R_lt (by (with_reducible repeat (first | apply Kd.R_alloc | apply Kd.R_drewN | apply Kd.R_drew)); exact HO_119002.out))) (Kd.R_lt (by (with_reducible repeat (first | apply Kd.R_alloc | apply Kd.R_drewN | apply Kd.R_drew)); exact HO_127002.out))) (Kd.R_lt (by (with_reducible repeat (first | apply Kd.R_alloc | apply Kd.R_drewN | apply Kd.R_drew)); exact HO_136002.out))) (Kd.R_lt (by (with_reducible repeat (first | apply Kd.R_alloc | apply Kd.R_drewN | apply Kd.R_drew)); exact HO159.out))) (below_size (by repeat (first | (with_reducible first | exact HB.out | apply below_alloc | apply pw_below_drewN | apply below_drew1 | refine below_set ?_ GE101.out | refine below_set ?_ GE118.out | refine below_set ?_ GE126.out | refine below_set ?_ GE135.out) | exact HB.out)))); have n10_ := Aside0.mk (blk_below (g := gb101) (o := .cells #[.int .i8 a0_0, .slice A0_1 l0_1.length c0_1, .slice A0_2 l0_2.length c0_2] 26 (0, 0)) (by (with_reducible repeat (first | refine blk_drewN ?_ _ | refine blk_drew ?_ | refine blk_alloc ?_ _)); exact BK101.out) hb); have n11_ := Aside0.mk (blk_below (g := gb118) (o := .cells #[.int .i8 t110, .slice Ao24 t111.length co24, .slice Ao25 t114.length co25] 30 (0, 0)) (by (with_reducible repeat (first | refine blk_drewN ?_ _ | refine blk_drew ?_ | refine blk_alloc ?_ _)); exact BK118.out) hb); have n12_ := Aside0.mk (blk_below (g := gb126) (o := .cells #[.int .i8 t119, .slice Ao32 t146.length co32, .slice Ao33 t147.length co33] 30 (0, 0)) (by (with_reducible repeat (first | refine blk_drewN ?_ _ | refine blk_drew ?_ | refine blk_alloc ?_ _)); exact BK126.out) hb); have n13_ := Aside0.mk (blk_below (g := gb135) (o := .cells #[.int .i8 t127, .slice Ao40 t128.length co40, .slice Ao41 t131.length co41] 30 (0, 0)) (by (with_reducible repeat (first | refine blk_drewN ?_ _ | refine blk_drew ?_ | refine blk_alloc ?_ _)); exact BK135.out) hb); have n14_ := Aside0.mk (below_step (by repeat (first | (with_reducible first | exact HB.out | apply below_alloc | apply pw_below_drewN | apply below_drew1 | refine below_set ?_ GE101.out | refine below_set ?_ GE118.out | refine below_set ?_ GE126.out | refine below_set ?_ GE135.out) | exact HB.out)) hb); clear HO_119001; clear HO_119002; clear HO_127001; clear HO_127002; clear HO_136001; clear HO_136002; clear HO156; clear HO159; clear BK101; clear BK118; clear BK126; clear BK135; clear HB; have HO_119001 := n0_; have HO_119002 := n1_; have HO_127001 := n2_; have HO_127002 := n3_; have HO_136001 := n4_; have HO_136002 := n5_; have HO156 := n6_; have HO159 := n7_; have HO163 := n8_; have HO166 := n9_; have BK101 := n10_; have BK118 := n11_; have BK126 := n12_; have BK135 := n13_; have HB := n14_; clear n0_ n1_ n2_ n3_ n4_ n5_ n6_ n7_ n8_ n9_ n10_ n11_ n12_ n13_ n14_; (try clear hb); (try clear hb2); (try clear hk); (try clear hi); (try clear ho0); (try clear ho1)) | ((with_reducible refine gate_dst (N := 14) rfl ?_); refine box_event ?hg (N := 14) ?hd (cs := #[.int .i8 0, .slice none 0 0, .slice none 0 0]) (t := 30) ?hr ?_; (case hd => rfl); (case hg => rfl); (case hr => first | (go_simp; done) | (go_simp; rfl)); intro gb168 hg w117 hbox hb; have n0_ := Aside0.mk (Kd.R_below (by (with_reducible repeat (first | apply Kd.R_alloc | apply Kd.R_drewN | apply Kd.R_drew)); exact HO_119001.out) hb); have n1_ := Aside0.mk (Kd.R_below (by (with_reducible repeat (first | apply Kd.R_alloc | apply Kd.R_drewN | apply Kd.R_drew)); exact HO_119002.out) hb); have n2_ := Aside0.mk (Kd.R_below (by (with_reducible repeat (first | apply Kd.R_alloc | apply Kd.R_drewN | apply Kd.R_drew)); exact HO_127001.out) hb); have n3_ := Aside0.mk (Kd.R_below (by (with_reducible repeat (first | apply Kd.R_alloc | apply Kd.R_drewN | apply Kd.R_drew)); exact HO_127002.out) hb); have n4_ := Aside0.mk (Kd.R_below (by (with_reducible repeat (first | apply Kd.R_alloc | apply Kd.R_drewN | apply Kd.R_drew)); exact HO_136001.out) hb); have n5_ := Aside0.mk (Kd.R_below (by (with_reducible repeat (first | apply Kd.R_alloc | apply Kd.R_drewN | apply Kd.R_drew)); exact HO_136002.out) hb); have n6_ := Aside0.mk (Kd.R_below (by (with_reducible repeat (first | apply Kd.R_alloc | apply Kd.R_drewN | apply Kd.R_drew)); exact HO156.out) hb); have n7_ := Aside0.mk (Kd.R_below (by (with_reducible repeat (first | apply Kd.R_alloc | apply Kd.R_drewN | apply Kd.R_drew)); exact HO159.out) hb); have n8_ := Aside0.mk (Kd.R_below (by (with_reducible repeat (first | apply Kd.R_alloc | apply Kd.R_drewN | apply Kd.R_drew)); exact HO163.out) hb); have n9_ := Aside0.mk (Kd.R_below (by (with_reducible repeat (first | apply Kd.R_alloc | apply Kd.R_drewN | apply Kd.R_drew)); exact HO166.out) hb); have n10_ := Aside0.mk (blk_below (g := gb101) (o := .cells #[.int .i8 a0_0, .slice A0_1 l0_1.length c0_1, .slice A0_2 l0_2.length c0_2] 26 (0, 0)) (by (with_reducible repeat (first | refine blk_drewN ?_ _ | refine blk_drew ?_ | refine blk_alloc ?_ _)); exact BK101.out) hb); have n11_ := Aside0.mk (blk_below (g := gb118) (o := .cells #[.int .i8 t110, .slice Ao24 t111.length co24, .slice Ao25 t114.length co25] 30 (0, 0)) (by (with_reducible repeat (first | refine blk_drewN ?_ _ | refine blk_drew ?_ | refine blk_alloc ?_ _)); exact BK118.out) hb); have n12_ := Aside0.mk (blk_below (g := gb126) (o := .cells #[.int .i8 t119, .slice Ao32 t146.length co32, .slice Ao33 t147.length co33] 30 (0, 0)) (by (with_reducible repeat (first | refine blk_drewN ?_ _ | refine blk_drew ?_ | refine blk_alloc ?_ _)); exact BK126.out) hb); have n13_ := Aside0.mk (blk_below (g := gb135) (o := .cells #[.int .i8 t127, .slice Ao40 t128.length co40, .slice Ao41 t131.length co41] 30 (0, 0)) (by (with_reducible repeat (first | refine blk_drewN ?_ _ | refine blk_drew ?_ | refine blk_alloc ?_ _)); exact BK135.out) hb); have n14_ := Aside0.mk (below_step (by repeat (first | (with_reducible first | exact HB.out | apply below_alloc | apply pw_below_drewN | apply below_drew1 | refine below_set ?_ GE101.out | refine below_set ?_ GE118.out | refine below_set ?_ GE126.out | refine below_set ?_ GE135.out) | exact HB.out)) hb); have n15_ := Aside0.mk (hbox); have n16_ := Aside0.mk ((by rw [hg]; exact (below_size (by repeat (first | (with_reducible first | exact HB.out | apply below_alloc | apply pw_below_drewN | apply below_drew1 | refine below_set ?_ GE101.out | refine below_set ?_ GE118.out | refine below_set ?_ GE126.out | refine below_set ?_ GE135.out) | exact HB.out))) : w.heap.size ≤ gb168)); have n17_ := Aside0.mk ((by rw [hg]; exact (below_size (by repeat (first | (with_reducible first | exact HB.out | apply below_alloc | apply pw_below_drewN | apply below_drew1 | refine below_set ?_ GE101.out | refine below_set ?_ GE118.out | refine below_set ?_ GE126.out | refine below_set ?_ GE135.out) | exact HB.out))) : w.heap.size ≤ gb168)); have n18_ := Aside0.mk ((by rw [hg]; exact Nat.ne_of_lt (blk_lt (g := gb101) (o := .cells #[.int .i8 a0_0, .slice A0_1 l0_1.length c0_1, .slice A0_2 l0_2.length c0_2] 26 (0, 0)) (by (with_reducible repeat (first | refine blk_drewN ?_ _ | refine blk_drew ?_ | refine blk_alloc ?_ _)); exact BK101.out)) : gb101 ≠ gb168)); have n19_ := Aside0.mk ((by rw [hg]; exact Nat.ne_of_gt (blk_lt (g := gb101) (o := .cells #[.int .i8 a0_0, .slice A0_1 l0_1.length c0_1, .slice A0_2 l0_2.length c0_2] 26 (0, 0)) (by (with_reducible repeat (first | refine blk_drewN ?_ _ | refine blk_drew ?_ | refine blk_alloc ?_ _)); exact BK101.out)) : gb168 ≠ gb101)); have n20_ := Aside0.mk ((by rw [hg]; exact Nat.ne_of_lt (blk_lt (g := gb118) (o := .cells #[.int .i8 t110, .slice Ao24 t111.length co24, .slice Ao25 t114.length co25] 30 (0, 0)) (by (with_reducible repeat (first | refine blk_drewN ?_ _ | refine blk_drew ?_ | refine blk_alloc ?_ _)); exact BK118.out)) : gb118 ≠ gb168)); have n21_ := Aside0.mk ((by rw [hg]; exact Nat.ne_of_gt (blk_lt (g := gb118) (o := .cells #[.int .i8 t110, .slice Ao24 t111.length co24, .slice Ao25 t114.length co25] 30 (0, 0)) (by (with_reducible repeat (first | refine blk_drewN ?_ _ | refine blk_drew ?_ | refine blk_alloc ?_ _)); exact BK118.out)) : gb168 ≠ gb118)); have n22_ := Aside0.mk ((by rw [hg]; exact Nat.ne_of_lt (blk_lt (g := gb126) (o := .cells #[.int .i8 t119, .slice Ao32 t146.length co32, .slice Ao33 t147.length co33] 30 (0, 0)) (by (with_reducible repeat (first | refine blk_drewN ?_ _ | refine blk_drew ?_ | refine blk_alloc ?_ _)); exact BK126.out)) : gb126 ≠ gb168)); have n23_ := Aside0.mk ((by rw [hg]; exact Nat.ne_of_gt (blk_lt (g := gb126) (o := .cells #[.int .i8 t119, .slice Ao32 t146.length co32, .slice Ao33 t147.length co33] 30 (0, 0)) (by (with_reducible repeat (first | refine blk_drewN ?_ _ | refine blk_drew ?_ | refine blk_alloc ?_ _)); exact BK126.out)) : gb168 ≠ gb126)); have n24_ := Aside0.mk ((by rw [hg]; exact Nat.ne_of_lt (blk_lt (g := gb135) (o := .cells #[.int .i8 t127, .slice Ao40 t128.length co40, .slice Ao41 t131.length co41] 30 (0, 0)) (by (with_reducible repeat (first | refine blk_drewN ?_ _ | refine blk_drew ?_ | refine blk_alloc ?_ _)); exact BK135.out)) : gb135 ≠ gb168)); have n25_ := Aside0.mk ((by rw [hg]; exact Nat.ne_of_gt (blk_lt (g := gb135) (o := .cells #[.int .i8 t127, .slice Ao40 t128.length co40, .slice Ao41 t131.length co41] 30 (0, 0)) (by (with_reducible repeat (first | refine blk_drewN ?_ _ | refine blk_drew ?_ | refine blk_alloc ?_ _)); exact BK135.out)) : gb168 ≠ gb135)); clear HO_119001; clear HO_119002; clear HO_127001; clear HO_127002; clear HO_136001; clear HO_136002; clear HO156; clear HO159; clear HO163; clear HO166; clear BK101; clear BK118; clear BK126; clear BK135; clear HB; have HO_119001 := n0_; have HO_119002 := n1_; have HO_127001 := n2_; have HO_127002 := n3_; have HO_136001 := n4_; have HO_136002 := n5_; have HO156 := n6_; have HO159 := n7_; have HO163 := n8_; have HO166 := n9_; have BK101 := n10_; have BK118 := n11_; have BK126 := n12_; have BK135 := n13_; have HB := n14_; have BK168 := n15_; have GW168 := n16_; have GE168 := n17_; have NB101_168 := n18_; have NB168_101 := n19_; have NB118_168 := n20_; have NB168_118 := n21_; have NB126_168 := n22_; have NB168_126 := n23_; have NB135_168 := n24_; have NB168_135 := n25_; clear n0_ n1_ n2_ n3_ n4_ n5_ n6_ n7_ n8_ n9_ n10_ n11_ n12_ n13_ n14_ n15_ n16_ n17_ n18_ n19_ n20_ n21_ n22_ n23_ n24_ n25_; clear hb hbox hg; have hnb118 := NB168_101.out; have hnc118 := NB101_168.out; have hnb119 := NB168_118.out; have hnc119 := NB118_168.out; have hnb120 := NB168_126.out; have hnc120 := NB126_168.out; have hnb121 := NB168_135.out; have hnc121 := NB135_168.out; have hcz122_0 : w117.cell? ⟨gb168, 0, none⟩ = some (.int .i8 0) := (blk_cell BK168.out 0).trans rfl; have hcz122_1 : w117.cell? ⟨gb168, 1, none⟩ = some (.slice none 0 0) := (blk_cell BK168.out 1).trans rfl; have hcz122_2 : w117.cell? ⟨gb168, 2, none⟩ = some (.slice none 0 0) := (blk_cell BK168.out 2).trans rfl; have hfz122_0 := blk_frozen BK168.out 0; have hfz122_1 := blk_frozen BK168.out 1; have hfz122_2 := blk_frozen BK168.out 2; obtain ⟨Ao123, co123, eo123⟩ := Kd.R_slice HO163.out; subst eo123; obtain ⟨Ao124, co124, eo124⟩ := Kd.R_slice HO166.out; subst eo124))
                      (try simp only [Act.put, List.setIfInBounds_toArray, List.set_cons_zero, List.set_cons_succ])
                      go_cut [92] (fun v92 wc => ∃ (kq : Nat) (x92_101 : Bool), v92 = .bool x92_101 ∧ Aside0 (laws_FnExactFlipGate.j2 kq t149 x92_101 t127 t150 t151 = some r) ∧ Aside0 (kq ≤ kj64) ∧ Aside0 (Kd.R k68 68 wc w.heap.size (fun k_ => some k_ ≠ ((.slice Ao32 t146.length co32) : Value).ownBlock ∧ some k_ ≠ ((.slice Ao40 t128.length co40) : Value).ownBlock ∧ some k_ ≠ ((.slice Ao123 t161.length co123) : Value).ownBlock) (.slice Ao24 t111.length co24) t111) ∧ Aside0 (Kd.R (Kd.int .i16) 66 wc w.heap.size (fun k_ => some k_ ≠ ((.slice Ao33 t147.length co33) : Value).ownBlock ∧ some k_ ≠ ((.slice Ao41 t131.length co41) : Value).ownBlock ∧ some k_ ≠ ((.slice Ao124 t164.length co124) : Value).ownBlock) (.slice Ao25 t114.length co25) t114) ∧ Aside0 (Kd.R k68 68 wc w.heap.size (fun k_ => some k_ ≠ ((.slice Ao24 t111.length co24) : Value).ownBlock ∧ some k_ ≠ ((.slice Ao40 t128.length co40) : Value).ownBlock ∧ some k_ ≠ ((.slice Ao123 t161.length co123) : Value).ownBlock) (.slice Ao32 t146.length co32) t146) ∧ Aside0 (Kd.R (Kd.int .i16) 66 wc w.heap.size (fun k_ => some k_ ≠ ((.slice Ao25 t114.length co25) : Value).ownBlock ∧ some k_ ≠ ((.slice Ao41 t131.length co41) : Value).ownBlock ∧ some k_ ≠ ((.slice Ao124 t164.length co124) : Value).ownBlock) (.slice Ao33 t147.length co33) t147) ∧ Aside0 (Kd.R k68 68 wc w.heap.size (fun k_ => some k_ ≠ ((.slice Ao24 t111.length co24) : Value).ownBlock ∧ some k_ ≠ ((.slice Ao32 t146.length co32) : Value).ownBlock ∧ some k_ ≠ ((.slice Ao123 t161.length co123) : Value).ownBlock) (.slice Ao40 t128.length co40) t150) ∧ Aside0 (Kd.R (Kd.int .i16) 66 wc w.heap.size (fun k_ => some k_ ≠ ((.slice Ao25 t114.length co25) : Value).ownBlock ∧ some k_ ≠ ((.slice Ao33 t147.length co33) : Value).ownBlock ∧ some k_ ≠ ((.slice Ao124 t164.length co124) : Value).ownBlock) (.slice Ao41 t131.length co41) t151) ∧ Aside0 (Kd.R k68 68 wc w.heap.size (fun k_ => some k_ ≠ ((.slice Ao24 t111.length co24) : Value).ownBlock ∧ some k_ ≠ ((.slice Ao32 t146.length co32) : Value).ownBlock ∧ some k_ ≠ ((.slice Ao40 t128.length co40) : Value).ownBlock) (.slice Ao123 t161.length co123) t161) ∧ Aside0 (Kd.R (Kd.int .i16) 66 wc w.heap.size (fun k_ => some k_ ≠ ((.slice Ao25 t114.length co25) : Value).ownBlock ∧ some k_ ≠ ((.slice Ao33 t147.length co33) : Value).ownBlock ∧ some k_ ≠ ((.slice Ao41 t131.length co41) : Value).ownBlock) (.slice Ao124 t164.length co124) t164) ∧ Aside0 (wc.heap[gb101]? = some (.cells #[.int .i8 a0_0, (.slice A0_1 l0_1.length c0_1), (.slice A0_2 l0_2.length c0_2)] 26 (0, 0))) ∧ Aside0 (wc.heap[gb118]? = some (.cells #[.int .i8 t110, (.slice Ao24 t111.length co24), (.slice Ao25 t114.length co25)] 30 (0, 0))) ∧ Aside0 (wc.heap[gb126]? = some (.cells #[.int .i8 t119, (.slice Ao32 t146.length co32), (.slice Ao33 t147.length co33)] 30 (0, 0))) ∧ Aside0 (wc.heap[gb135]? = some (.cells #[.int .i8 t127, (.slice Ao40 t128.length co40), (.slice Ao41 t131.length co41)] 30 (0, 0))) ∧ Aside0 (wc.heap[gb168]? = some (.cells #[.int .i8 t160, (.slice Ao123 t161.length co123), (.slice Ao124 t164.length co124)] 30 (0, 0))) ∧ Aside0 (Below w.heap.size w wc))
                      case first =>
                        have H := HC102.out
                        clear HC102
                        replace H := Option.bind_eq_some_iff.mp H
                        obtain ⟨t169, A1250, H⟩ := H
                        replace H : (if t169 = true then (laws_FnExactFlipGate.j2 kj64 t149 (t167 != t117) t127 t150 t151) else (laws_FnExactFlipGate.j2 kj64 t149 true t127 t150 t151)) = some r := H
                        have A125 := Aside0.mk A1250
                        clear A1250
                        by_cases c126 : t169 = true
                        · subst c126
                          have H1 : (laws_FnExactFlipGate.j2 kj64 t149 (t167 != t117) t127 t150 t151) = some r := by rw [if_pos rfl] at H; exact H
                          clear H
                          have H := H1
                          clear H1
                          have H' := Aside0.mk H
                          clear H
                          have hnb127 := NB168_101.out
                          have hnc127 := NB101_168.out
                          have hnb128 := NB168_118.out
                          have hnc128 := NB118_168.out
                          have hnb129 := NB168_126.out
                          have hnc129 := NB126_168.out
                          have hnb130 := NB168_135.out
                          have hnc130 := NB135_168.out
                          have hcz131_0 : w117.cell? ⟨gb168, 0, none⟩ = some (.int .i8 0) := (blk_cell BK168.out 0).trans rfl
                          have hcz131_1 : w117.cell? ⟨gb168, 1, none⟩ = some (.slice none 0 0) := (blk_cell BK168.out 1).trans rfl
                          have hcz131_2 : w117.cell? ⟨gb168, 2, none⟩ = some (.slice none 0 0) := (blk_cell BK168.out 2).trans rfl
                          have hfz131_0 := blk_frozen BK168.out 0
                          have hfz131_1 := blk_frozen BK168.out 1
                          have hfz131_2 := blk_frozen BK168.out 2
                          have hnb132 := NB118_101.out
                          have hnc132 := NB101_118.out
                          have hnb133 := NB118_126.out
                          have hnc133 := NB126_118.out
                          have hnb134 := NB118_135.out
                          have hnc134 := NB135_118.out
                          have hcz135_0 : w117.cell? ⟨gb118, 0, none⟩ = some (.int .i8 t110) := (blk_cell BK118.out 0).trans rfl
                          have hcz135_1 : w117.cell? ⟨gb118, 1, none⟩ = some (.slice Ao24 t111.length co24) := (blk_cell BK118.out 1).trans rfl
                          have hcz135_2 : w117.cell? ⟨gb118, 2, none⟩ = some (.slice Ao25 t114.length co25) := (blk_cell BK118.out 2).trans rfl
                          have hfz135_0 := blk_frozen BK118.out 0
                          have hfz135_1 := blk_frozen BK118.out 1
                          have hfz135_2 := blk_frozen BK118.out 2
                          go_wp2_with (first | ((with_reducible refine gate_callee (f := 13) rfl ?_); refine goesL_ (some 86) rfl rfl Try.func13 (by kernel_rfl) rfl #[.agg #[.int .i8 t160, .slice Ao123 t161.length co123, .slice Ao124 t164.length co124], .agg #[.int .i8 t110, .slice Ao24 t111.length co24, .slice Ao25 t114.length co25]] rfl (by (try simp only [List.map_toArray, List.map_cons, List.map_nil]); first | done | rfl | (simp only [List.length_drop, List.length_take]; rfl)) ?_; (with_reducible refine (laws_eqCircuit.calls kj64 t160 _ _ t161 _ _ t164 t110 _ _ t111 _ _ t114 true _ ?side1 ?side2 ?side3 ?side4 ?side5 ?side6 ?side7 ?side8 A125.out).mono ?_); (case side1 => refine (Kd.R_reads' (e := 68) (base := w.heap.size) (ok := fun k_ => ((((True ∧ some k_ ≠ (.slice Ao24 t111.length co24 : Value).ownBlock) ∧ some k_ ≠ (.slice Ao32 t146.length co32 : Value).ownBlock) ∧ some k_ ≠ (.slice Ao40 t128.length co40 : Value).ownBlock) ∧ some k_ ≠ (.slice Ao114 t154.length co114 : Value).ownBlock)) (n := t161.length) (c := co123) ?_).2.2; exact (by (with_reducible repeat (first | apply Kd.R_alloc | apply Kd.R_drewN | apply Kd.R_drew)); exact (Kd.R_mono (Kd.R_far (p := ⟨gb168, 2, none⟩) (Kd.R_far (p := ⟨gb168, 1, none⟩) (Kd.R_far (p := ⟨gb168, 0, none⟩) (Kd.R_types HO163.out BK168.out (by decide)) (fun _ hk => hk.2) (.int .i8 t160)) (fun _ hk => hk.2) (.slice Ao123 t161.length co123)) (fun _ hk => hk.2) (.slice Ao124 t164.length co124)) (fun _ h_ => h_.1)))); (case side2 => exact (Kd.R_reads' HO163.out).2.1); (case side3 => refine (Kd.R_reads' (e := 66) (base := w.heap.size) (ok := fun k_ => ((((True ∧ some k_ ≠ (.slice Ao25 t114.length co25 : Value).ownBlock) ∧ some k_ ≠ (.slice Ao33 t147.length co33 : Value).ownBlock) ∧ some k_ ≠ (.slice Ao41 t131.length co41 : Value).ownBlock) ∧ some k_ ≠ (.slice Ao115 t157.length co115 : Value).ownBlock)) (n := t164.length) (c := co124) ?_).2.2; exact (by (with_reducible repeat (first | apply Kd.R_alloc | apply Kd.R_drewN | apply Kd.R_drew)); exact (Kd.R_mono (Kd.R_far (p := ⟨gb168, 2, none⟩) (Kd.R_far (p := ⟨gb168, 1, none⟩) (Kd.R_far (p := ⟨gb168, 0, none⟩) (Kd.R_types HO166.out BK168.out (by decide)) (fun _ hk => hk.2) (.int .i8 t160)) (fun _ hk => hk.2) (.slice Ao123 t161.length co123)) (fun _ hk => hk.2) (.slice Ao124 t164.length co124)) (fun _ h_ => h_.1)))); (case side4 => exact (Kd.R_reads' HO166.out).2.1); (case side5 => refine (Kd.R_reads' (e := 68) (base := w.heap.size) (ok := fun k_ => (((some k_ ≠ (.slice Ao32 t146.length co32 : Value).ownBlock ∧ some k_ ≠ (.slice Ao40 t128.length co40 : Value).ownBlock) ∧ some k_ ≠ (.slice Ao114 t154.length co114 : Value).ownBlock) ∧ some k_ ≠ (.slice Ao123 t161.length co123 : Value).ownBlock)) (n := t111.length) (c := co24) ?_).2.2; exact (by (with_reducible repeat (first | apply Kd.R_alloc | apply Kd.R_drewN | apply Kd.R_drew)); exact (Kd.R_mono (Kd.R_far (p := ⟨gb168, 2, none⟩) (Kd.R_far (p := ⟨gb168, 1, none⟩) (Kd.R_far (p := ⟨gb168, 0, none⟩) (Kd.R_types HO_119001.out BK168.out (by decide)) (fun _ hk => hk.2) (.int .i8 t160)) (fun _ hk => hk.2) (.slice Ao123 t161.length co123)) (fun _ hk => hk.2) (.slice Ao124 t164.length co124)) (fun _ h_ => h_.1)))); (case side6 => exact (Kd.R_reads' HO_119001.out).2.1); (case side7 => refine (Kd.R_reads' (e := 66) (base := w.heap.size) (ok := fun k_ => (((some k_ ≠ (.slice Ao33 t147.length co33 : Value).ownBlock ∧ some k_ ≠ (.slice Ao41 t131.length co41 : Value).ownBlock) ∧ some k_ ≠ (.slice Ao115 t157.length co115 : Value).ownBlock) ∧ some k_ ≠ (.slice Ao124 t164.length co124 : Value).ownBlock)) (n := t114.length) (c := co25) ?_).2.2; exact (by (with_reducible repeat (first | apply Kd.R_alloc | apply Kd.R_drewN | apply Kd.R_drew)); exact (Kd.R_mono (Kd.R_far (p := ⟨gb168, 2, none⟩) (Kd.R_far (p := ⟨gb168, 1, none⟩) (Kd.R_far (p := ⟨gb168, 0, none⟩) (Kd.R_types HO_119002.out BK168.out (by decide)) (fun _ hk => hk.2) (.int .i8 t160)) (fun _ hk => hk.2) (.slice Ao123 t161.length co123)) (fun _ hk => hk.2) (.slice Ao124 t164.length co124)) (fun _ h_ => h_.1)))); (case side8 => exact (Kd.R_reads' HO_119002.out).2.1); rintro e w136 ⟨rfl, hb⟩; refine ⟨_, rfl, ?_⟩; have n0_ := Aside0.mk (Kd.R_below (by (with_reducible repeat (first | apply Kd.R_alloc | apply Kd.R_drewN | apply Kd.R_drew)); exact (Kd.R_mono (Kd.R_far (p := ⟨gb168, 2, none⟩) (Kd.R_far (p := ⟨gb168, 1, none⟩) (Kd.R_far (p := ⟨gb168, 0, none⟩) (Kd.R_types HO_119001.out BK168.out (by decide)) (fun _ hk => hk.2) (.int .i8 t160)) (fun _ hk => hk.2) (.slice Ao123 t161.length co123)) (fun _ hk => hk.2) (.slice Ao124 t164.length co124)) (fun _ h_ => h_.1))) hb); have n1_ := Aside0.mk (Kd.R_below (by (with_reducible repeat (first | apply Kd.R_alloc | apply Kd.R_drewN | apply Kd.R_drew)); exact (Kd.R_mono (Kd.R_far (p := ⟨gb168, 2, none⟩) (Kd.R_far (p := ⟨gb168, 1, none⟩) (Kd.R_far (p := ⟨gb168, 0, none⟩) (Kd.R_types HO_119002.out BK168.out (by decide)) (fun _ hk => hk.2) (.int .i8 t160)) (fun _ hk => hk.2) (.slice Ao123 t161.length co123)) (fun _ hk => hk.2) (.slice Ao124 t164.length co124)) (fun _ h_ => h_.1))) hb); have n2_ := Aside0.mk (Kd.R_below (by (with_reducible repeat (first | apply Kd.R_alloc | apply Kd.R_drewN | apply Kd.R_drew)); exact (Kd.R_mono (Kd.R_far (p := ⟨gb168, 2, none⟩) (Kd.R_far (p := ⟨gb168, 1, none⟩) (Kd.R_far (p := ⟨gb168, 0, none⟩) (Kd.R_types HO_127001.out BK168.out (by decide)) (fun _ hk => hk.2) (.int .i8 t160)) (fun _ hk => hk.2) (.slice Ao123 t161.length co123)) (fun _ hk => hk.2) (.slice Ao124 t164.length co124)) (fun _ h_ => h_.1))) hb); have n3_ := Aside0.mk (Kd.R_below (by (with_reducible repeat (first | apply Kd.R_alloc | apply Kd.R_drewN | apply Kd.R_drew)); exact (Kd.R_mono (Kd.R_far (p := ⟨gb168, 2, none⟩) (Kd.R_far (p := ⟨gb168, 1, none⟩) (Kd.R_far (p := ⟨gb168, 0, none⟩) (Kd.R_types HO_127002.out BK168.out (by decide)) (fun _ hk => hk.2) (.int .i8 t160)) (fun _ hk => hk.2) (.slice Ao123 t161.length co123)) (fun _ hk => hk.2) (.slice Ao124 t164.length co124)) (fun _ h_ => h_.1))) hb); have n4_ := Aside0.mk (Kd.R_below (by (with_reducible repeat (first | apply Kd.R_alloc | apply Kd.R_drewN | apply Kd.R_drew)); exact (Kd.R_mono (Kd.R_far (p := ⟨gb168, 2, none⟩) (Kd.R_far (p := ⟨gb168, 1, none⟩) (Kd.R_far (p := ⟨gb168, 0, none⟩) (Kd.R_types HO_136001.out BK168.out (by decide)) (fun _ hk => hk.2) (.int .i8 t160)) (fun _ hk => hk.2) (.slice Ao123 t161.length co123)) (fun _ hk => hk.2) (.slice Ao124 t164.length co124)) (fun _ h_ => h_.1))) hb); have n5_ := Aside0.mk (Kd.R_below (by (with_reducible repeat (first | apply Kd.R_alloc | apply Kd.R_drewN | apply Kd.R_drew)); exact (Kd.R_mono (Kd.R_far (p := ⟨gb168, 2, none⟩) (Kd.R_far (p := ⟨gb168, 1, none⟩) (Kd.R_far (p := ⟨gb168, 0, none⟩) (Kd.R_types HO_136002.out BK168.out (by decide)) (fun _ hk => hk.2) (.int .i8 t160)) (fun _ hk => hk.2) (.slice Ao123 t161.length co123)) (fun _ hk => hk.2) (.slice Ao124 t164.length co124)) (fun _ h_ => h_.1))) hb); have n6_ := Aside0.mk (Kd.R_below (by (with_reducible repeat (first | apply Kd.R_alloc | apply Kd.R_drewN | apply Kd.R_drew)); exact (Kd.R_mono (Kd.R_far (p := ⟨gb168, 2, none⟩) (Kd.R_far (p := ⟨gb168, 1, none⟩) (Kd.R_far (p := ⟨gb168, 0, none⟩) (Kd.R_types HO156.out BK168.out (by decide)) (fun _ hk => hk.2) (.int .i8 t160)) (fun _ hk => hk.2) (.slice Ao123 t161.length co123)) (fun _ hk => hk.2) (.slice Ao124 t164.length co124)) (fun _ h_ => h_.1))) hb); have n7_ := Aside0.mk (Kd.R_below (by (with_reducible repeat (first | apply Kd.R_alloc | apply Kd.R_drewN | apply Kd.R_drew)); exact (Kd.R_mono (Kd.R_far (p := ⟨gb168, 2, none⟩) (Kd.R_far (p := ⟨gb168, 1, none⟩) (Kd.R_far (p := ⟨gb168, 0, none⟩) (Kd.R_types HO159.out BK168.out (by decide)) (fun _ hk => hk.2) (.int .i8 t160)) (fun _ hk => hk.2) (.slice Ao123 t161.length co123)) (fun _ hk => hk.2) (.slice Ao124 t164.length co124)) (fun _ h_ => h_.1))) hb); have n8_ := Aside0.mk (Kd.R_below (by (with_reducible repeat (first | apply Kd.R_alloc | apply Kd.R_drewN | apply Kd.R_drew)); exact (Kd.R_mono (Kd.R_far (p := ⟨gb168, 2, none⟩) (Kd.R_far (p := ⟨gb168, 1, none⟩) (Kd.R_far (p := ⟨gb168, 0, none⟩) (Kd.R_types HO163.out BK168.out (by decide)) (fun _ hk => hk.2) (.int .i8 t160)) (fun _ hk => hk.2) (.slice Ao123 t161.length co123)) (fun _ hk => hk.2) (.slice Ao124 t164.length co124)) (fun _ h_ => h_.1))) hb); have n9_ := Aside0.mk (Kd.R_below (by (with_reducible repeat (first | apply Kd.R_alloc | apply Kd.R_drewN | apply Kd.R_drew)); exact (Kd.R_mono (Kd.R_far (p := ⟨gb168, 2, none⟩) (Kd.R_far (p := ⟨gb168, 1, none⟩) (Kd.R_far (p := ⟨gb168, 0, none⟩) (Kd.R_types HO166.out BK168.out (by decide)) (fun _ hk => hk.2) (.int .i8 t160)) (fun _ hk => hk.2) (.slice Ao123 t161.length co123)) (fun _ hk => hk.2) (.slice Ao124 t164.length co124)) (fun _ h_ => h_.1))) hb); have n10_ := Aside0.mk (blk_below (g := gb101) (o := .cells #[.int .i8 a0_0, .slice A0_1 l0_1.length c0_1, .slice A0_2 l0_2.length c0_2] 26 (0, 0)) (by (with_reducible repeat (first | refine blk_drewN ?_ _ | refine blk_drew ?_ | refine blk_alloc ?_ _)); refine blk_far ?_ NB101_168.out _; (with_reducible repeat (first | refine blk_drewN ?_ _ | refine blk_drew ?_ | refine blk_alloc ?_ _)); refine blk_far ?_ NB101_168.out _; (with_reducible repeat (first | refine blk_drewN ?_ _ | refine blk_drew ?_ | refine blk_alloc ?_ _)); refine blk_far ?_ NB101_168.out _; (with_reducible repeat (first | refine blk_drewN ?_ _ | refine blk_drew ?_ | refine blk_alloc ?_ _)); exact BK101.out) hb); have n11_ := Aside0.mk (blk_below (g := gb118) (o := .cells #[.int .i8 t110, .slice Ao24 t111.length co24, .slice Ao25 t114.length co25] 30 (0, 0)) (by (with_reducible repeat (first | refine blk_drewN ?_ _ | refine blk_drew ?_ | refine blk_alloc ?_ _)); refine blk_far ?_ NB118_168.out _; (with_reducible repeat (first | refine blk_drewN ?_ _ | refine blk_drew ?_ | refine blk_alloc ?_ _)); refine blk_far ?_ NB118_168.out _; (with_reducible repeat (first | refine blk_drewN ?_ _ | refine blk_drew ?_ | refine blk_alloc ?_ _)); refine blk_far ?_ NB118_168.out _; (with_reducible repeat (first | refine blk_drewN ?_ _ | refine blk_drew ?_ | refine blk_alloc ?_ _)); exact BK118.out) hb); have n12_ := Aside0.mk (blk_below (g := gb126) (o := .cells #[.int .i8 t119, .slice Ao32 t146.length co32, .slice Ao33 t147.length co33] 30 (0, 0)) (by (with_reducible repeat (first | refine blk_drewN ?_ _ | refine blk_drew ?_ | refine blk_alloc ?_ _)); refine blk_far ?_ NB126_168.out _; (with_reducible repeat (first | refine blk_drewN ?_ _ | refine blk_drew ?_ | refine blk_alloc ?_ _)); refine blk_far ?_ NB126_168.out _; (with_reducible repeat (first | refine blk_drewN ?_ _ | refine blk_drew ?_ | refine blk_alloc ?_ _)); refine blk_far ?_ NB126_168.out _; (with_reducible repeat (first | refine blk_drewN ?_ _ | refine blk_drew ?_ | refine blk_alloc ?_ _)); exact BK126.out) hb); have n13_ := Aside0.mk (blk_below (g := gb135) (o := .cells #[.int .i8 t127, .slice Ao40 t128.length co40, .slice Ao41 t131.length co41] 30 (0, 0)) (by (with_reducible repeat (first | refine blk_drewN ?_ _ | refine blk_drew ?_ | refine blk_alloc ?_ _)); refine blk_far ?_ NB135_168.out _; (with_reducible repeat (first | refine blk_drewN ?_ _ | refine blk_drew ?_ | refine blk_alloc ?_ _)); refine blk_far ?_ NB135_168.out _; (with_reducible repeat (first | refine blk_drewN ?_ _ | refine blk_drew ?_ | refine blk_alloc ?_ _)); refine blk_far ?_ NB135_168.out _; (with_reducible repeat (first | refine blk_drewN ?_ _ | refine blk_drew ?_ | refine blk_alloc ?_ _)); exact BK135.out) hb); have n14_ := Aside0.mk (blk_below (g := gb168) (o := .cells #[.int .i8 t160, .slice Ao123 t161.length co123, .slice Ao124 t164.length co124] 30 (0, 0)) (by (with_reducible repeat (first | refine blk_drewN ?_ _ | refine blk_drew ?_ | refine blk_alloc ?_ _)); refine blk_put (cs := #[.int .i8 t160, .slice Ao123 t161.length co123, .slice none 0 0]) ?_ 2 _ rfl; (with_reducible repeat (first | refine blk_drewN ?_ _ | refine blk_drew ?_ | refine blk_alloc ?_ _)); refine blk_put (cs := #[.int .i8 t160, .slice none 0 0, .slice none 0 0]) ?_ 1 _ rfl; (with_reducible repeat (first | refine blk_drewN ?_ _ | refine blk_drew ?_ | refine blk_alloc ?_ _)); refine blk_put (cs := #[.int .i8 0, .slice none 0 0, .slice none 0 0]) ?_ 0 _ rfl; (with_reducible repeat (first | refine blk_drewN ?_ _ | refine blk_drew ?_ | refine blk_alloc ?_ _)); exact BK168.out) hb); have n15_ := Aside0.mk (below_step (by repeat (first | (with_reducible first | exact HB.out | apply below_alloc | apply pw_below_drewN | apply below_drew1 | refine below_set ?_ GE101.out | refine below_set ?_ GE118.out | refine below_set ?_ GE126.out | refine below_set ?_ GE135.out | refine below_set ?_ GE168.out) | exact HB.out)) hb); clear HO_119001; clear HO_119002; clear HO_127001; clear HO_127002; clear HO_136001; clear HO_136002; clear HO156; clear HO159; clear HO163; clear HO166; clear BK101; clear BK118; clear BK126; clear BK135; clear BK168; clear HB; have HO_119001 := n0_; have HO_119002 := n1_; have HO_127001 := n2_; have HO_127002 := n3_; have HO_136001 := n4_; have HO_136002 := n5_; have HO156 := n6_; have HO159 := n7_; have HO163 := n8_; have HO166 := n9_; have BK101 := n10_; have BK118 := n11_; have BK126 := n12_; have BK135 := n13_; have BK168 := n14_; have HB := n15_; clear n0_ n1_ n2_ n3_ n4_ n5_ n6_ n7_ n8_ n9_ n10_ n11_ n12_ n13_ n14_ n15_; (try clear hb); (try clear hb2); (try clear hk); (try clear hi)))
                          go_meet
                          case rel => exact ⟨_, ((t167 != t117)), (by first | rfl | (simp; done) | (simp [*]; done)), H', ⟨by have := HJ11.out; have := HJ64.out; first | omega | exact Nat.le_refl _⟩, ⟨by (try simp only [hl127001_64]); (try simp only [hl127002_64]); (with_reducible repeat (first | apply Kd.R_alloc | apply Kd.R_drewN | apply Kd.R_drew)); exact Kd.R_mono HO_119001.out (fun _ hk => ⟨hk.1.1.1, ⟨hk.1.1.2, hk.2⟩⟩)⟩, ⟨by (try simp only [hl127001_64]); (try simp only [hl127002_64]); (with_reducible repeat (first | apply Kd.R_alloc | apply Kd.R_drewN | apply Kd.R_drew)); exact Kd.R_mono HO_119002.out (fun _ hk => ⟨hk.1.1.1, ⟨hk.1.1.2, hk.2⟩⟩)⟩, ⟨by (try simp only [hl127001_64]); (try simp only [hl127002_64]); (with_reducible repeat (first | apply Kd.R_alloc | apply Kd.R_drewN | apply Kd.R_drew)); exact Kd.R_mono HO_127001.out (fun _ hk => ⟨hk.1.1.1, ⟨hk.1.1.2, hk.2⟩⟩)⟩, ⟨by (try simp only [hl127001_64]); (try simp only [hl127002_64]); (with_reducible repeat (first | apply Kd.R_alloc | apply Kd.R_drewN | apply Kd.R_drew)); exact Kd.R_mono HO_127002.out (fun _ hk => ⟨hk.1.1.1, ⟨hk.1.1.2, hk.2⟩⟩)⟩, ⟨by (try simp only [hl127001_64]); (try simp only [hl127002_64]); (with_reducible repeat (first | apply Kd.R_alloc | apply Kd.R_drewN | apply Kd.R_drew)); exact Kd.R_mono HO_136001.out (fun _ hk => ⟨hk.1.1.1, ⟨hk.1.1.2, hk.2⟩⟩)⟩, ⟨by (try simp only [hl127001_64]); (try simp only [hl127002_64]); (with_reducible repeat (first | apply Kd.R_alloc | apply Kd.R_drewN | apply Kd.R_drew)); exact Kd.R_mono HO_136002.out (fun _ hk => ⟨hk.1.1.1, ⟨hk.1.1.2, hk.2⟩⟩)⟩, ⟨by (try simp only [hl127001_64]); (try simp only [hl127002_64]); (with_reducible repeat (first | apply Kd.R_alloc | apply Kd.R_drewN | apply Kd.R_drew)); exact Kd.R_mono HO163.out (fun _ hk => ⟨hk.1.1.1.2, ⟨hk.1.1.2, hk.1.2⟩⟩)⟩, ⟨by (try simp only [hl127001_64]); (try simp only [hl127002_64]); (with_reducible repeat (first | apply Kd.R_alloc | apply Kd.R_drewN | apply Kd.R_drew)); exact Kd.R_mono HO166.out (fun _ hk => ⟨hk.1.1.1.2, ⟨hk.1.1.2, hk.1.2⟩⟩)⟩, ⟨by (try simp only [hl127001_64]); (try simp only [hl127002_64]); (with_reducible repeat (first | refine blk_drewN ?_ _ | refine blk_drew ?_ | refine blk_alloc ?_ _)); exact BK101.out⟩, ⟨by (try simp only [hl127001_64]); (try simp only [hl127002_64]); (with_reducible repeat (first | refine blk_drewN ?_ _ | refine blk_drew ?_ | refine blk_alloc ?_ _)); exact BK118.out⟩, ⟨by (try simp only [hl127001_64]); (try simp only [hl127002_64]); (with_reducible repeat (first | refine blk_drewN ?_ _ | refine blk_drew ?_ | refine blk_alloc ?_ _)); exact BK126.out⟩, ⟨by (try simp only [hl127001_64]); (try simp only [hl127002_64]); (with_reducible repeat (first | refine blk_drewN ?_ _ | refine blk_drew ?_ | refine blk_alloc ?_ _)); exact BK135.out⟩, ⟨by (try simp only [hl127001_64]); (try simp only [hl127002_64]); (with_reducible repeat (first | refine blk_drewN ?_ _ | refine blk_drew ?_ | refine blk_alloc ?_ _)); exact BK168.out⟩, ⟨by repeat (first | (with_reducible first | exact HB.out | apply below_alloc | apply pw_below_drewN | apply below_drew1 | refine below_set ?_ GE101.out | refine below_set ?_ GE118.out | refine below_set ?_ GE126.out | refine below_set ?_ GE135.out | refine below_set ?_ GE168.out) | exact HB.out)⟩⟩
                        · replace c126 := Bool.eq_false_iff.mpr c126
                          subst c126
                          have H1 : (laws_FnExactFlipGate.j2 kj64 t149 true t127 t150 t151) = some r := by rw [if_neg (show ¬ (false = true) by decide)] at H; exact H
                          clear H
                          have H := H1
                          clear H1
                          have H' := Aside0.mk H
                          clear H
                          have hnb137 := NB168_101.out
                          have hnc137 := NB101_168.out
                          have hnb138 := NB168_118.out
                          have hnc138 := NB118_168.out
                          have hnb139 := NB168_126.out
                          have hnc139 := NB126_168.out
                          have hnb140 := NB168_135.out
                          have hnc140 := NB135_168.out
                          have hcz141_0 : w117.cell? ⟨gb168, 0, none⟩ = some (.int .i8 0) := (blk_cell BK168.out 0).trans rfl
                          have hcz141_1 : w117.cell? ⟨gb168, 1, none⟩ = some (.slice none 0 0) := (blk_cell BK168.out 1).trans rfl
                          have hcz141_2 : w117.cell? ⟨gb168, 2, none⟩ = some (.slice none 0 0) := (blk_cell BK168.out 2).trans rfl
                          have hfz141_0 := blk_frozen BK168.out 0
                          have hfz141_1 := blk_frozen BK168.out 1
                          have hfz141_2 := blk_frozen BK168.out 2
                          have hnb142 := NB118_101.out
                          have hnc142 := NB101_118.out
                          have hnb143 := NB118_126.out
                          have hnc143 := NB126_118.out
                          have hnb144 := NB118_135.out
                          have hnc144 := NB135_118.out
                          have hcz145_0 : w117.cell? ⟨gb118, 0, none⟩ = some (.int .i8 t110) := (blk_cell BK118.out 0).trans rfl
                          have hcz145_1 : w117.cell? ⟨gb118, 1, none⟩ = some (.slice Ao24 t111.length co24) := (blk_cell BK118.out 1).trans rfl
                          have hcz145_2 : w117.cell? ⟨gb118, 2, none⟩ = some (.slice Ao25 t114.length co25) := (blk_cell BK118.out 2).trans rfl
                          have hfz145_0 := blk_frozen BK118.out 0
                          have hfz145_1 := blk_frozen BK118.out 1
                          have hfz145_2 := blk_frozen BK118.out 2
                          go_wp2_with (first | ((with_reducible refine gate_callee (f := 13) rfl ?_); refine goesL_ (some 86) rfl rfl Try.func13 (by kernel_rfl) rfl #[.agg #[.int .i8 t160, .slice Ao123 t161.length co123, .slice Ao124 t164.length co124], .agg #[.int .i8 t110, .slice Ao24 t111.length co24, .slice Ao25 t114.length co25]] rfl (by (try simp only [List.map_toArray, List.map_cons, List.map_nil]); first | done | rfl | (simp only [List.length_drop, List.length_take]; rfl)) ?_; (with_reducible refine (laws_eqCircuit.calls kj64 t160 _ _ t161 _ _ t164 t110 _ _ t111 _ _ t114 false _ ?side1 ?side2 ?side3 ?side4 ?side5 ?side6 ?side7 ?side8 A125.out).mono ?_); (case side1 => refine (Kd.R_reads' (e := 68) (base := w.heap.size) (ok := fun k_ => ((((True ∧ some k_ ≠ (.slice Ao24 t111.length co24 : Value).ownBlock) ∧ some k_ ≠ (.slice Ao32 t146.length co32 : Value).ownBlock) ∧ some k_ ≠ (.slice Ao40 t128.length co40 : Value).ownBlock) ∧ some k_ ≠ (.slice Ao114 t154.length co114 : Value).ownBlock)) (n := t161.length) (c := co123) ?_).2.2; exact (by (with_reducible repeat (first | apply Kd.R_alloc | apply Kd.R_drewN | apply Kd.R_drew)); exact (Kd.R_mono (Kd.R_far (p := ⟨gb168, 2, none⟩) (Kd.R_far (p := ⟨gb168, 1, none⟩) (Kd.R_far (p := ⟨gb168, 0, none⟩) (Kd.R_types HO163.out BK168.out (by decide)) (fun _ hk => hk.2) (.int .i8 t160)) (fun _ hk => hk.2) (.slice Ao123 t161.length co123)) (fun _ hk => hk.2) (.slice Ao124 t164.length co124)) (fun _ h_ => h_.1)))); (case side2 => exact (Kd.R_reads' HO163.out).2.1); (case side3 => refine (Kd.R_reads' (e := 66) (base := w.heap.size) (ok := fun k_ => ((((True ∧ some k_ ≠ (.slice Ao25 t114.length co25 : Value).ownBlock) ∧ some k_ ≠ (.slice Ao33 t147.length co33 : Value).ownBlock) ∧ some k_ ≠ (.slice Ao41 t131.length co41 : Value).ownBlock) ∧ some k_ ≠ (.slice Ao115 t157.length co115 : Value).ownBlock)) (n := t164.length) (c := co124) ?_).2.2; exact (by (with_reducible repeat (first | apply Kd.R_alloc | apply Kd.R_drewN | apply Kd.R_drew)); exact (Kd.R_mono (Kd.R_far (p := ⟨gb168, 2, none⟩) (Kd.R_far (p := ⟨gb168, 1, none⟩) (Kd.R_far (p := ⟨gb168, 0, none⟩) (Kd.R_types HO166.out BK168.out (by decide)) (fun _ hk => hk.2) (.int .i8 t160)) (fun _ hk => hk.2) (.slice Ao123 t161.length co123)) (fun _ hk => hk.2) (.slice Ao124 t164.length co124)) (fun _ h_ => h_.1)))); (case side4 => exact (Kd.R_reads' HO166.out).2.1); (case side5 => refine (Kd.R_reads' (e := 68) (base := w.heap.size) (ok := fun k_ => (((some k_ ≠ (.slice Ao32 t146.length co32 : Value).ownBlock ∧ some k_ ≠ (.slice Ao40 t128.length co40 : Value).ownBlock) ∧ some k_ ≠ (.slice Ao114 t154.length co114 : Value).ownBlock) ∧ some k_ ≠ (.slice Ao123 t161.length co123 : Value).ownBlock)) (n := t111.length) (c := co24) ?_).2.2; exact (by (with_reducible repeat (first | apply Kd.R_alloc | apply Kd.R_drewN | apply Kd.R_drew)); exact (Kd.R_mono (Kd.R_far (p := ⟨gb168, 2, none⟩) (Kd.R_far (p := ⟨gb168, 1, none⟩) (Kd.R_far (p := ⟨gb168, 0, none⟩) (Kd.R_types HO_119001.out BK168.out (by decide)) (fun _ hk => hk.2) (.int .i8 t160)) (fun _ hk => hk.2) (.slice Ao123 t161.length co123)) (fun _ hk => hk.2) (.slice Ao124 t164.length co124)) (fun _ h_ => h_.1)))); (case side6 => exact (Kd.R_reads' HO_119001.out).2.1); (case side7 => refine (Kd.R_reads' (e := 66) (base := w.heap.size) (ok := fun k_ => (((some k_ ≠ (.slice Ao33 t147.length co33 : Value).ownBlock ∧ some k_ ≠ (.slice Ao41 t131.length co41 : Value).ownBlock) ∧ some k_ ≠ (.slice Ao115 t157.length co115 : Value).ownBlock) ∧ some k_ ≠ (.slice Ao124 t164.length co124 : Value).ownBlock)) (n := t114.length) (c := co25) ?_).2.2; exact (by (with_reducible repeat (first | apply Kd.R_alloc | apply Kd.R_drewN | apply Kd.R_drew)); exact (Kd.R_mono (Kd.R_far (p := ⟨gb168, 2, none⟩) (Kd.R_far (p := ⟨gb168, 1, none⟩) (Kd.R_far (p := ⟨gb168, 0, none⟩) (Kd.R_types HO_119002.out BK168.out (by decide)) (fun _ hk => hk.2) (.int .i8 t160)) (fun _ hk => hk.2) (.slice Ao123 t161.length co123)) (fun _ hk => hk.2) (.slice Ao124 t164.length co124)) (fun _ h_ => h_.1)))); (case side8 => exact (Kd.R_reads' HO_119002.out).2.1); rintro e w146 ⟨rfl, hb⟩; refine ⟨_, rfl, ?_⟩; have n0_ := Aside0.mk (Kd.R_below (by (with_reducible repeat (first | apply Kd.R_alloc | apply Kd.R_drewN | apply Kd.R_drew)); exact (Kd.R_mono (Kd.R_far (p := ⟨gb168, 2, none⟩) (Kd.R_far (p := ⟨gb168, 1, none⟩) (Kd.R_far (p := ⟨gb168, 0, none⟩) (Kd.R_types HO_119001.out BK168.out (by decide)) (fun _ hk => hk.2) (.int .i8 t160)) (fun _ hk => hk.2) (.slice Ao123 t161.length co123)) (fun _ hk => hk.2) (.slice Ao124 t164.length co124)) (fun _ h_ => h_.1))) hb); have n1_ := Aside0.mk (Kd.R_below (by (with_reducible repeat (first | apply Kd.R_alloc | apply Kd.R_drewN | apply Kd.R_drew)); exact (Kd.R_mono (Kd.R_far (p := ⟨gb168, 2, none⟩) (Kd.R_far (p := ⟨gb168, 1, none⟩) (Kd.R_far (p := ⟨gb168, 0, none⟩) (Kd.R_types HO_119002.out BK168.out (by decide)) (fun _ hk => hk.2) (.int .i8 t160)) (fun _ hk => hk.2) (.slice Ao123 t161.length co123)) (fun _ hk => hk.2) (.slice Ao124 t164.length co124)) (fun _ h_ => h_.1))) hb); have n2_ := Aside0.mk (Kd.R_below (by (with_reducible repeat (first | apply Kd.R_alloc | apply Kd.R_drewN | apply Kd.R_drew)); exact (Kd.R_mono (Kd.R_far (p := ⟨gb168, 2, none⟩) (Kd.R_far (p := ⟨gb168, 1, none⟩) (Kd.R_far (p := ⟨gb168, 0, none⟩) (Kd.R_types HO_127001.out BK168.out (by decide)) (fun _ hk => hk.2) (.int .i8 t160)) (fun _ hk => hk.2) (.slice Ao123 t161.length co123)) (fun _ hk => hk.2) (.slice Ao124 t164.length co124)) (fun _ h_ => h_.1))) hb); have n3_ := Aside0.mk (Kd.R_below (by (with_reducible repeat (first | apply Kd.R_alloc | apply Kd.R_drewN | apply Kd.R_drew)); exact (Kd.R_mono (Kd.R_far (p := ⟨gb168, 2, none⟩) (Kd.R_far (p := ⟨gb168, 1, none⟩) (Kd.R_far (p := ⟨gb168, 0, none⟩) (Kd.R_types HO_127002.out BK168.out (by decide)) (fun _ hk => hk.2) (.int .i8 t160)) (fun _ hk => hk.2) (.slice Ao123 t161.length co123)) (fun _ hk => hk.2) (.slice Ao124 t164.length co124)) (fun _ h_ => h_.1))) hb); have n4_ := Aside0.mk (Kd.R_below (by (with_reducible repeat (first | apply Kd.R_alloc | apply Kd.R_drewN | apply Kd.R_drew)); exact (Kd.R_mono (Kd.R_far (p := ⟨gb168, 2, none⟩) (Kd.R_far (p := ⟨gb168, 1, none⟩) (Kd.R_far (p := ⟨gb168, 0, none⟩) (Kd.R_types HO_136001.out BK168.out (by decide)) (fun _ hk => hk.2) (.int .i8 t160)) (fun _ hk => hk.2) (.slice Ao123 t161.length co123)) (fun _ hk => hk.2) (.slice Ao124 t164.length co124)) (fun _ h_ => h_.1))) hb); have n5_ := Aside0.mk (Kd.R_below (by (with_reducible repeat (first | apply Kd.R_alloc | apply Kd.R_drewN | apply Kd.R_drew)); exact (Kd.R_mono (Kd.R_far (p := ⟨gb168, 2, none⟩) (Kd.R_far (p := ⟨gb168, 1, none⟩) (Kd.R_far (p := ⟨gb168, 0, none⟩) (Kd.R_types HO_136002.out BK168.out (by decide)) (fun _ hk => hk.2) (.int .i8 t160)) (fun _ hk => hk.2) (.slice Ao123 t161.length co123)) (fun _ hk => hk.2) (.slice Ao124 t164.length co124)) (fun _ h_ => h_.1))) hb); have n6_ := Aside0.mk (Kd.R_below (by (with_reducible repeat (first | apply Kd.R_alloc | apply Kd.R_drewN | apply Kd.R_drew)); exact (Kd.R_mono (Kd.R_far (p := ⟨gb168, 2, none⟩) (Kd.R_far (p := ⟨gb168, 1, none⟩) (Kd.R_far (p := ⟨gb168, 0, none⟩) (Kd.R_types HO156.out BK168.out (by decide)) (fun _ hk => hk.2) (.int .i8 t160)) (fun _ hk => hk.2) (.slice Ao123 t161.length co123)) (fun _ hk => hk.2) (.slice Ao124 t164.length co124)) (fun _ h_ => h_.1))) hb); have n7_ := Aside0.mk (Kd.R_below (by (with_reducible repeat (first | apply Kd.R_alloc | apply Kd.R_drewN | apply Kd.R_drew)); exact (Kd.R_mono (Kd.R_far (p := ⟨gb168, 2, none⟩) (Kd.R_far (p := ⟨gb168, 1, none⟩) (Kd.R_far (p := ⟨gb168, 0, none⟩) (Kd.R_types HO159.out BK168.out (by decide)) (fun _ hk => hk.2) (.int .i8 t160)) (fun _ hk => hk.2) (.slice Ao123 t161.length co123)) (fun _ hk => hk.2) (.slice Ao124 t164.length co124)) (fun _ h_ => h_.1))) hb); have n8_ := Aside0.mk (Kd.R_below (by (with_reducible repeat (first | apply Kd.R_alloc | apply Kd.R_drewN | apply Kd.R_drew)); exact (Kd.R_mono (Kd.R_far (p := ⟨gb168, 2, none⟩) (Kd.R_far (p := ⟨gb168, 1, none⟩) (Kd.R_far (p := ⟨gb168, 0, none⟩) (Kd.R_types HO163.out BK168.out (by decide)) (fun _ hk => hk.2) (.int .i8 t160)) (fun _ hk => hk.2) (.slice Ao123 t161.length co123)) (fun _ hk => hk.2) (.slice Ao124 t164.length co124)) (fun _ h_ => h_.1))) hb); have n9_ := Aside0.mk (Kd.R_below (by (with_reducible repeat (first | apply Kd.R_alloc | apply Kd.R_drewN | apply Kd.R_drew)); exact (Kd.R_mono (Kd.R_far (p := ⟨gb168, 2, none⟩) (Kd.R_far (p := ⟨gb168, 1, none⟩) (Kd.R_far (p := ⟨gb168, 0, none⟩) (Kd.R_types HO166.out BK168.out (by decide)) (fun _ hk => hk.2) (.int .i8 t160)) (fun _ hk => hk.2) (.slice Ao123 t161.length co123)) (fun _ hk => hk.2) (.slice Ao124 t164.length co124)) (fun _ h_ => h_.1))) hb); have n10_ := Aside0.mk (blk_below (g := gb101) (o := .cells #[.int .i8 a0_0, .slice A0_1 l0_1.length c0_1, .slice A0_2 l0_2.length c0_2] 26 (0, 0)) (by (with_reducible repeat (first | refine blk_drewN ?_ _ | refine blk_drew ?_ | refine blk_alloc ?_ _)); refine blk_far ?_ NB101_168.out _; (with_reducible repeat (first | refine blk_drewN ?_ _ | refine blk_drew ?_ | refine blk_alloc ?_ _)); refine blk_far ?_ NB101_168.out _; (with_reducible repeat (first | refine blk_drewN ?_ _ | refine blk_drew ?_ | refine blk_alloc ?_ _)); refine blk_far ?_ NB101_168.out _; (with_reducible repeat (first | refine blk_drewN ?_ _ | refine blk_drew ?_ | refine blk_alloc ?_ _)); exact BK101.out) hb); have n11_ := Aside0.mk (blk_below (g := gb118) (o := .cells #[.int .i8 t110, .slice Ao24 t111.length co24, .slice Ao25 t114.length co25] 30 (0, 0)) (by (with_reducible repeat (first | refine blk_drewN ?_ _ | refine blk_drew ?_ | refine blk_alloc ?_ _)); refine blk_far ?_ NB118_168.out _; (with_reducible repeat (first | refine blk_drewN ?_ _ | refine blk_drew ?_ | refine blk_alloc ?_ _)); refine blk_far ?_ NB118_168.out _; (with_reducible repeat (first | refine blk_drewN ?_ _ | refine blk_drew ?_ | refine blk_alloc ?_ _)); refine blk_far ?_ NB118_168.out _; (with_reducible repeat (first | refine blk_drewN ?_ _ | refine blk_drew ?_ | refine blk_alloc ?_ _)); exact BK118.out) hb); have n12_ := Aside0.mk (blk_below (g := gb126) (o := .cells #[.int .i8 t119, .slice Ao32 t146.length co32, .slice Ao33 t147.length co33] 30 (0, 0)) (by (with_reducible repeat (first | refine blk_drewN ?_ _ | refine blk_drew ?_ | refine blk_alloc ?_ _)); refine blk_far ?_ NB126_168.out _; (with_reducible repeat (first | refine blk_drewN ?_ _ | refine blk_drew ?_ | refine blk_alloc ?_ _)); refine blk_far ?_ NB126_168.out _; (with_reducible repeat (first | refine blk_drewN ?_ _ | refine blk_drew ?_ | refine blk_alloc ?_ _)); refine blk_far ?_ NB126_168.out _; (with_reducible repeat (first | refine blk_drewN ?_ _ | refine blk_drew ?_ | refine blk_alloc ?_ _)); exact BK126.out) hb); have n13_ := Aside0.mk (blk_below (g := gb135) (o := .cells #[.int .i8 t127, .slice Ao40 t128.length co40, .slice Ao41 t131.length co41] 30 (0, 0)) (by (with_reducible repeat (first | refine blk_drewN ?_ _ | refine blk_drew ?_ | refine blk_alloc ?_ _)); refine blk_far ?_ NB135_168.out _; (with_reducible repeat (first | refine blk_drewN ?_ _ | refine blk_drew ?_ | refine blk_alloc ?_ _)); refine blk_far ?_ NB135_168.out _; (with_reducible repeat (first | refine blk_drewN ?_ _ | refine blk_drew ?_ | refine blk_alloc ?_ _)); refine blk_far ?_ NB135_168.out _; (with_reducible repeat (first | refine blk_drewN ?_ _ | refine blk_drew ?_ | refine blk_alloc ?_ _)); exact BK135.out) hb); have n14_ := Aside0.mk (blk_below (g := gb168) (o := .cells #[.int .i8 t160, .slice Ao123 t161.length co123, .slice Ao124 t164.length co124] 30 (0, 0)) (by (with_reducible repeat (first | refine blk_drewN ?_ _ | refine blk_drew ?_ | refine blk_alloc ?_ _)); refine blk_put (cs := #[.int .i8 t160, .slice Ao123 t161.length co123, .slice none 0 0]) ?_ 2 _ rfl; (with_reducible repeat (first | refine blk_drewN ?_ _ | refine blk_drew ?_ | refine blk_alloc ?_ _)); refine blk_put (cs := #[.int .i8 t160, .slice none 0 0, .slice none 0 0]) ?_ 1 _ rfl; (with_reducible repeat (first | refine blk_drewN ?_ _ | refine blk_drew ?_ | refine blk_alloc ?_ _)); refine blk_put (cs := #[.int .i8 0, .slice none 0 0, .slice none 0 0]) ?_ 0 _ rfl; (with_reducible repeat (first | refine blk_drewN ?_ _ | refine blk_drew ?_ | refine blk_alloc ?_ _)); exact BK168.out) hb); have n15_ := Aside0.mk (below_step (by repeat (first | (with_reducible first | exact HB.out | apply below_alloc | apply pw_below_drewN | apply below_drew1 | refine below_set ?_ GE101.out | refine below_set ?_ GE118.out | refine below_set ?_ GE126.out | refine below_set ?_ GE135.out | refine below_set ?_ GE168.out) | exact HB.out)) hb); clear HO_119001; clear HO_119002; clear HO_127001; clear HO_127002; clear HO_136001; clear HO_136002; clear HO156; clear HO159; clear HO163; clear HO166; clear BK101; clear BK118; clear BK126; clear BK135; clear BK168; clear HB; have HO_119001 := n0_; have HO_119002 := n1_; have HO_127001 := n2_; have HO_127002 := n3_; have HO_136001 := n4_; have HO_136002 := n5_; have HO156 := n6_; have HO159 := n7_; have HO163 := n8_; have HO166 := n9_; have BK101 := n10_; have BK118 := n11_; have BK126 := n12_; have BK135 := n13_; have BK168 := n14_; have HB := n15_; clear n0_ n1_ n2_ n3_ n4_ n5_ n6_ n7_ n8_ n9_ n10_ n11_ n12_ n13_ n14_ n15_; (try clear hb); (try clear hb2); (try clear hk); (try clear hi)))
                          go_meet
                          case rel => exact ⟨_, (true), (by first | rfl | (simp; done) | (simp [*]; done)), H', ⟨by have := HJ11.out; have := HJ64.out; first | omega | exact Nat.le_refl _⟩, ⟨by (try simp only [hl127001_64]); (try simp only [hl127002_64]); (with_reducible repeat (first | apply Kd.R_alloc | apply Kd.R_drewN | apply Kd.R_drew)); exact Kd.R_mono HO_119001.out (fun _ hk => ⟨hk.1.1.1, ⟨hk.1.1.2, hk.2⟩⟩)⟩, ⟨by (try simp only [hl127001_64]); (try simp only [hl127002_64]); (with_reducible repeat (first | apply Kd.R_alloc | apply Kd.R_drewN | apply Kd.R_drew)); exact Kd.R_mono HO_119002.out (fun _ hk => ⟨hk.1.1.1, ⟨hk.1.1.2, hk.2⟩⟩)⟩, ⟨by (try simp only [hl127001_64]); (try simp only [hl127002_64]); (with_reducible repeat (first | apply Kd.R_alloc | apply Kd.R_drewN | apply Kd.R_drew)); exact Kd.R_mono HO_127001.out (fun _ hk => ⟨hk.1.1.1, ⟨hk.1.1.2, hk.2⟩⟩)⟩, ⟨by (try simp only [hl127001_64]); (try simp only [hl127002_64]); (with_reducible repeat (first | apply Kd.R_alloc | apply Kd.R_drewN | apply Kd.R_drew)); exact Kd.R_mono HO_127002.out (fun _ hk => ⟨hk.1.1.1, ⟨hk.1.1.2, hk.2⟩⟩)⟩, ⟨by (try simp only [hl127001_64]); (try simp only [hl127002_64]); (with_reducible repeat (first | apply Kd.R_alloc | apply Kd.R_drewN | apply Kd.R_drew)); exact Kd.R_mono HO_136001.out (fun _ hk => ⟨hk.1.1.1, ⟨hk.1.1.2, hk.2⟩⟩)⟩, ⟨by (try simp only [hl127001_64]); (try simp only [hl127002_64]); (with_reducible repeat (first | apply Kd.R_alloc | apply Kd.R_drewN | apply Kd.R_drew)); exact Kd.R_mono HO_136002.out (fun _ hk => ⟨hk.1.1.1, ⟨hk.1.1.2, hk.2⟩⟩)⟩, ⟨by (try simp only [hl127001_64]); (try simp only [hl127002_64]); (with_reducible repeat (first | apply Kd.R_alloc | apply Kd.R_drewN | apply Kd.R_drew)); exact Kd.R_mono HO163.out (fun _ hk => ⟨hk.1.1.1.2, ⟨hk.1.1.2, hk.1.2⟩⟩)⟩, ⟨by (try simp only [hl127001_64]); (try simp only [hl127002_64]); (with_reducible repeat (first | apply Kd.R_alloc | apply Kd.R_drewN | apply Kd.R_drew)); exact Kd.R_mono HO166.out (fun _ hk => ⟨hk.1.1.1.2, ⟨hk.1.1.2, hk.1.2⟩⟩)⟩, ⟨by (try simp only [hl127001_64]); (try simp only [hl127002_64]); (with_reducible repeat (first | refine blk_drewN ?_ _ | refine blk_drew ?_ | refine blk_alloc ?_ _)); exact BK101.out⟩, ⟨by (try simp only [hl127001_64]); (try simp only [hl127002_64]); (with_reducible repeat (first | refine blk_drewN ?_ _ | refine blk_drew ?_ | refine blk_alloc ?_ _)); exact BK118.out⟩, ⟨by (try simp only [hl127001_64]); (try simp only [hl127002_64]); (with_reducible repeat (first | refine blk_drewN ?_ _ | refine blk_drew ?_ | refine blk_alloc ?_ _)); exact BK126.out⟩, ⟨by (try simp only [hl127001_64]); (try simp only [hl127002_64]); (with_reducible repeat (first | refine blk_drewN ?_ _ | refine blk_drew ?_ | refine blk_alloc ?_ _)); exact BK135.out⟩, ⟨by (try simp only [hl127001_64]); (try simp only [hl127002_64]); (with_reducible repeat (first | refine blk_drewN ?_ _ | refine blk_drew ?_ | refine blk_alloc ?_ _)); exact BK168.out⟩, ⟨by repeat (first | (with_reducible first | exact HB.out | apply below_alloc | apply pw_below_drewN | apply below_drew1 | refine below_set ?_ GE101.out | refine below_set ?_ GE118.out | refine below_set ?_ GE126.out | refine below_set ?_ GE135.out | refine below_set ?_ GE168.out) | exact HB.out)⟩⟩
                      case rest =>
                        clear HC102
                        try clear c1
                        try clear c2
                        try clear p2
                        try clear c3
                        try clear c4
                        try clear c4b0
                        try clear c5
                        try clear c6
                        try clear c7
                        try clear c8
                        try clear c9
                        try clear c10
                        try clear c11
                        try clear c12
                        try clear c13
                        try clear c14
                        try clear c15
                        try clear c22
                        try clear c29
                        try clear c30
                        try clear c36
                        try clear c37
                        try clear c38
                        try clear c43
                        try clear c44
                        try clear c45
                        try clear c46
                        try clear c48
                        try clear c49
                        try clear c52
                        try clear c53
                        try clear c54
                        try clear c56
                        try clear c57
                        try clear c60
                        try clear c63
                        try clear c71
                        try clear c72
                        try clear c73
                        try clear c76
                        try clear c76b0
                        try clear c78
                        try clear c79
                        try clear c80
                        try clear c81
                        try clear c83
                        try clear c84
                        try clear c87
                        try clear c88
                        try clear c89
                        try clear c91
                        try clear c92
                        try clear c95
                        try clear c98
                        try clear c98b0
                        try clear c99
                        try clear c99b0
                        try clear c99b1
                        try clear c103
                        try clear c104
                        try clear c105
                        try clear c110
                        try clear c111
                        try clear c118
                        try clear c119
                        try clear c120
                        try clear c121
                        try clear c126
                        try clear c127
                        try clear c128
                        try clear c129
                        try clear c130
                        try clear c132
                        try clear c133
                        try clear c134
                        try clear c137
                        try clear c138
                        try clear c139
                        try clear c140
                        try clear c142
                        try clear c143
                        try clear c144
                        try clear hcz106_0
                        try clear hcz106_1
                        try clear hcz106_2
                        try clear hcz108_0
                        try clear hcz108_1
                        try clear hcz108_2
                        try clear hcz112_0
                        try clear hcz112_1
                        try clear hcz112_2
                        try clear hcz122_0
                        try clear hcz122_1
                        try clear hcz122_2
                        try clear hcz131_0
                        try clear hcz131_1
                        try clear hcz131_2
                        try clear hcz135_0
                        try clear hcz135_1
                        try clear hcz135_2
                        try clear hcz141_0
                        try clear hcz141_1
                        try clear hcz141_2
                        try clear hcz145_0
                        try clear hcz145_1
                        try clear hcz145_2
                        try clear hcz14_0
                        try clear hcz14_1
                        try clear hcz14_2
                        try clear hcz16_0
                        try clear hcz16_1
                        try clear hcz16_2
                        try clear hcz23_0
                        try clear hcz23_1
                        try clear hcz23_2
                        try clear hcz26_0
                        try clear hcz26_1
                        try clear hcz26_2
                        try clear hcz31_0
                        try clear hcz31_1
                        try clear hcz31_2
                        try clear hcz39_0
                        try clear hcz39_1
                        try clear hcz39_2
                        try clear hcz47_0
                        try clear hcz47_1
                        try clear hcz47_2
                        try clear hcz50_0
                        try clear hcz50_1
                        try clear hcz50_2
                        try clear hcz55_0
                        try clear hcz55_1
                        try clear hcz55_2
                        try clear hcz58_0
                        try clear hcz58_1
                        try clear hcz58_2
                        try clear hcz6_0
                        try clear hcz6_1
                        try clear hcz6_2
                        try clear hcz74_0
                        try clear hcz74_1
                        try clear hcz74_2
                        try clear hcz82_0
                        try clear hcz82_1
                        try clear hcz82_2
                        try clear hcz85_0
                        try clear hcz85_1
                        try clear hcz85_2
                        try clear hcz90_0
                        try clear hcz90_1
                        try clear hcz90_2
                        try clear hcz93_0
                        try clear hcz93_1
                        try clear hcz93_2
                        try clear hfz106_0
                        try clear hfz106_1
                        try clear hfz106_2
                        try clear hfz108_0
                        try clear hfz108_1
                        try clear hfz108_2
                        try clear hfz112_0
                        try clear hfz112_1
                        try clear hfz112_2
                        try clear hfz122_0
                        try clear hfz122_1
                        try clear hfz122_2
                        try clear hfz131_0
                        try clear hfz131_1
                        try clear hfz131_2
                        try clear hfz135_0
                        try clear hfz135_1
                        try clear hfz135_2
                        try clear hfz141_0
                        try clear hfz141_1
                        try clear hfz141_2
                        try clear hfz145_0
                        try clear hfz145_1
                        try clear hfz145_2
                        try clear hfz14_0
                        try clear hfz14_1
                        try clear hfz14_2
                        try clear hfz16_0
                        try clear hfz16_1
                        try clear hfz16_2
                        try clear hfz23_0
                        try clear hfz23_1
                        try clear hfz23_2
                        try clear hfz26_0
                        try clear hfz26_1
                        try clear hfz26_2
                        try clear hfz31_0
                        try clear hfz31_1
                        try clear hfz31_2
                        try clear hfz39_0
                        try clear hfz39_1
                        try clear hfz39_2
                        try clear hfz47_0
                        try clear hfz47_1
                        try clear hfz47_2
                        try clear hfz50_0
                        try clear hfz50_1
                        try clear hfz50_2
                        try clear hfz55_0
                        try clear hfz55_1
                        try clear hfz55_2
                        try clear hfz58_0
                        try clear hfz58_1
                        try clear hfz58_2
                        try clear hfz6_0
                        try clear hfz6_1
                        try clear hfz6_2
                        try clear hfz74_0
                        try clear hfz74_1
                        try clear hfz74_2
                        try clear hfz82_0
                        try clear hfz82_1
                        try clear hfz82_2
                        try clear hfz85_0
                        try clear hfz85_1
                        try clear hfz85_2
                        try clear hfz90_0
                        try clear hfz90_1
                        try clear hfz90_2
                        try clear hfz93_0
                        try clear hfz93_1
                        try clear hfz93_2
                        try clear p2
                        obtain ⟨kq, x92_101, rfl, HA, HJ101, HO_119001, HO_119002, HO_127001, HO_127002, HO_136001, HO_136002, HO_169001, HO_169002, BK101, BK118, BK126, BK135, BK168, HB⟩ := hcut
                        have hl136001_101 := (Kd.R_reads' HO_136001.out).1
                        rw [hl136001_101] at HO_136001
                        (try simp only [hl136001_101])
                        (try simp only [hl136001_101] at BK101)
                        (try simp only [hl136001_101] at BK118)
                        (try simp only [hl136001_101] at BK126)
                        (try simp only [hl136001_101] at BK135)
                        (try simp only [hl136001_101] at BK168)
                        (try simp only [hl136001_101] at HO_119001)
                        (try simp only [hl136001_101] at HO_119002)
                        (try simp only [hl136001_101] at HO_127001)
                        (try simp only [hl136001_101] at HO_127002)
                        (try simp only [hl136001_101] at HO_136002)
                        (try simp only [hl136001_101] at HO_169001)
                        (try simp only [hl136001_101] at HO_169002)
                        have hl136002_101 := (Kd.R_reads' HO_136002.out).1
                        rw [hl136002_101] at HO_136002
                        (try simp only [hl136002_101])
                        (try simp only [hl136002_101] at BK101)
                        (try simp only [hl136002_101] at BK118)
                        (try simp only [hl136002_101] at BK126)
                        (try simp only [hl136002_101] at BK135)
                        (try simp only [hl136002_101] at BK168)
                        (try simp only [hl136002_101] at HO_119001)
                        (try simp only [hl136002_101] at HO_119002)
                        (try simp only [hl136002_101] at HO_127001)
                        (try simp only [hl136002_101] at HO_127002)
                        (try simp only [hl136002_101] at HO_136001)
                        (try simp only [hl136002_101] at HO_169001)
                        (try simp only [hl136002_101] at HO_169002)
                        cases kq with
                        | zero => exact absurd HA.out (by simp [laws_FnExactFlipGate.j2])
                        | succ kj101 =>
                          have H := HA.out
                          clear HA
                          simp only [laws_FnExactFlipGate.j2] at H
                          by_cases c147 : x92_101 = true
                          · subst c147
                            have H1 : (none) = some r := by rw [if_pos rfl] at H; exact H
                            clear H
                            have H := H1
                            clear H1
                            exact absurd H (by simp)
                          · replace c147 := Bool.eq_false_iff.mpr c147
                            subst c147
                            have H1 : ((laws_heldCircuit.f kj101 t127 t150 t151 1).bind fun t170 => (if t170 < 0 then (none) else (if t170 = t149 then (some true) else (none)))) = some r := by rw [if_neg (show ¬ (false = true) by decide)] at H; exact H
                            clear H
                            have H := H1
                            clear H1
                            replace H := Option.bind_eq_some_iff.mp H
                            obtain ⟨t170, A1480, H⟩ := H
                            replace H : (if t170 < 0 then (none) else (if t170 = t149 then (some true) else (none))) = some r := H
                            have A148 := Aside0.mk A1480
                            clear A1480
                            by_cases c149 : t170 < 0
                            · rw [if_pos c149] at H
                              exact absurd H (by simp)
                            · rw [if_neg c149] at H
                              have c149b0 : decide (t170 < 0) = false := decide_eq_false c149
                              clear c149
                              by_cases c150 : t170 = t149
                              · rw [if_pos c150] at H
                                have c150b0 : (t170 == t149) = true := beq_iff_eq.mpr c150
                                have c150b1 : (t170 != t149) = false := bne_eq_false_iff_eq.mpr c150
                                clear c150
                                obtain rfl := Option.some.inj H
                                have hnb151 := NB135_101.out
                                have hnc151 := NB101_135.out
                                have hnb152 := NB135_118.out
                                have hnc152 := NB118_135.out
                                have hnb153 := NB135_126.out
                                have hnc153 := NB126_135.out
                                have hnb154 := NB135_168.out
                                have hnc154 := NB168_135.out
                                have hcz155_0 : wc.cell? ⟨gb135, 0, none⟩ = some (.int .i8 t127) := (blk_cell BK135.out 0).trans rfl
                                have hcz155_1 : wc.cell? ⟨gb135, 1, none⟩ = some (.slice Ao40 t150.length co40) := (blk_cell BK135.out 1).trans rfl
                                have hcz155_2 : wc.cell? ⟨gb135, 2, none⟩ = some (.slice Ao41 t151.length co41) := (blk_cell BK135.out 2).trans rfl
                                have hfz155_0 := blk_frozen BK135.out 0
                                have hfz155_1 := blk_frozen BK135.out 1
                                have hfz155_2 := blk_frozen BK135.out 2
                                go_wp2_with (first | ((with_reducible refine gate_callee (f := 15) rfl ?_); refine goesL_ (some 95) rfl rfl Try.func15 (by kernel_rfl) rfl #[.agg #[.int .i8 t127, .slice Ao40 t150.length co40, .slice Ao41 t151.length co41], .int .i64 1] rfl (by (try simp only [List.map_toArray, List.map_cons, List.map_nil]); first | done | rfl | (simp only [List.length_drop, List.length_take]; rfl)) ?_; (with_reducible refine (laws_heldCircuit.calls kj101 t127 _ _ t150 _ _ t151 1 t170 _ ?side1 ?side2 ?side3 ?side4 A148.out).mono ?_); (case side1 => repeat (first | exact (Kd.R_reads' HO_136001.out).2.2 | (with_reducible refine Kd.C_alloc ?_ _) | (with_reducible refine Kd.C_drewN ?_ _) | (with_reducible refine Kd.C_drew ?_))); (case side2 => exact (Kd.R_reads' HO_136001.out).2.1); (case side3 => repeat (first | exact (Kd.R_reads' HO_136002.out).2.2 | (with_reducible refine Kd.C_alloc ?_ _) | (with_reducible refine Kd.C_drewN ?_ _) | (with_reducible refine Kd.C_drew ?_))); (case side4 => exact (Kd.R_reads' HO_136002.out).2.1); rintro e w156 ⟨rfl, hb⟩; refine ⟨_, rfl, ?_⟩; have n0_ := Aside0.mk (Kd.R_below (by (with_reducible repeat (first | apply Kd.R_alloc | apply Kd.R_drewN | apply Kd.R_drew)); exact HO_119001.out) hb); have n1_ := Aside0.mk (Kd.R_below (by (with_reducible repeat (first | apply Kd.R_alloc | apply Kd.R_drewN | apply Kd.R_drew)); exact HO_119002.out) hb); have n2_ := Aside0.mk (Kd.R_below (by (with_reducible repeat (first | apply Kd.R_alloc | apply Kd.R_drewN | apply Kd.R_drew)); exact HO_127001.out) hb); have n3_ := Aside0.mk (Kd.R_below (by (with_reducible repeat (first | apply Kd.R_alloc | apply Kd.R_drewN | apply Kd.R_drew)); exact HO_127002.out) hb); have n4_ := Aside0.mk (Kd.R_below (by (with_reducible repeat (first | apply Kd.R_alloc | apply Kd.R_drewN | apply Kd.R_drew)); exact HO_136001.out) hb); have n5_ := Aside0.mk (Kd.R_below (by (with_reducible repeat (first | apply Kd.R_alloc | apply Kd.R_drewN | apply Kd.R_drew)); exact HO_136002.out) hb); have n6_ := Aside0.mk (Kd.R_below (by (with_reducible repeat (first | apply Kd.R_alloc | apply Kd.R_drewN | apply Kd.R_drew)); exact HO_169001.out) hb); have n7_ := Aside0.mk (Kd.R_below (by (with_reducible repeat (first | apply Kd.R_alloc | apply Kd.R_drewN | apply Kd.R_drew)); exact HO_169002.out) hb); have n8_ := Aside0.mk (blk_below (g := gb101) (o := .cells #[.int .i8 a0_0, .slice A0_1 l0_1.length c0_1, .slice A0_2 l0_2.length c0_2] 26 (0, 0)) (by (with_reducible repeat (first | refine blk_drewN ?_ _ | refine blk_drew ?_ | refine blk_alloc ?_ _)); exact BK101.out) hb); have n9_ := Aside0.mk (blk_below (g := gb118) (o := .cells #[.int .i8 t110, .slice Ao24 t111.length co24, .slice Ao25 t114.length co25] 30 (0, 0)) (by (with_reducible repeat (first | refine blk_drewN ?_ _ | refine blk_drew ?_ | refine blk_alloc ?_ _)); exact BK118.out) hb); have n10_ := Aside0.mk (blk_below (g := gb126) (o := .cells #[.int .i8 t119, .slice Ao32 t146.length co32, .slice Ao33 t147.length co33] 30 (0, 0)) (by (with_reducible repeat (first | refine blk_drewN ?_ _ | refine blk_drew ?_ | refine blk_alloc ?_ _)); exact BK126.out) hb); have n11_ := Aside0.mk (blk_below (g := gb135) (o := .cells #[.int .i8 t127, .slice Ao40 t150.length co40, .slice Ao41 t151.length co41] 30 (0, 0)) (by (with_reducible repeat (first | refine blk_drewN ?_ _ | refine blk_drew ?_ | refine blk_alloc ?_ _)); exact BK135.out) hb); have n12_ := Aside0.mk (blk_below (g := gb168) (o := .cells #[.int .i8 t160, .slice Ao123 t161.length co123, .slice Ao124 t164.length co124] 30 (0, 0)) (by (with_reducible repeat (first | refine blk_drewN ?_ _ | refine blk_drew ?_ | refine blk_alloc ?_ _)); exact BK168.out) hb); have n13_ := Aside0.mk (below_step (by repeat (first | (with_reducible first | exact HB.out | apply below_alloc | apply pw_below_drewN | apply below_drew1 | refine below_set ?_ GE101.out | refine below_set ?_ GE118.out | refine below_set ?_ GE126.out | refine below_set ?_ GE135.out | refine below_set ?_ GE168.out) | exact HB.out)) hb); clear HO_119001; clear HO_119002; clear HO_127001; clear HO_127002; clear HO_136001; clear HO_136002; clear HO_169001; clear HO_169002; clear BK101; clear BK118; clear BK126; clear BK135; clear BK168; clear HB; have HO_119001 := n0_; have HO_119002 := n1_; have HO_127001 := n2_; have HO_127002 := n3_; have HO_136001 := n4_; have HO_136002 := n5_; have HO_169001 := n6_; have HO_169002 := n7_; have BK101 := n8_; have BK118 := n9_; have BK126 := n10_; have BK135 := n11_; have BK168 := n12_; have HB := n13_; clear n0_ n1_ n2_ n3_ n4_ n5_ n6_ n7_ n8_ n9_ n10_ n11_ n12_ n13_; (try clear hb); (try clear hb2); (try clear hk); (try clear hi)))
                                go_ret
                                exact ⟨by first | rfl | (simp [errW_none, errW_some] <;> rfl) | (simp [*, errW_none, errW_some] <;> rfl), by repeat (first | (with_reducible first | exact HB.out | apply below_alloc | apply pw_below_drewN | apply below_drew1 | refine below_set ?_ GE101.out | refine below_set ?_ GE118.out | refine below_set ?_ GE126.out | refine below_set ?_ GE135.out | refine below_set ?_ GE168.out) | exact HB.out)⟩
                              · rw [if_neg c150] at H
                                exact absurd H (by simp)
                    · rw [if_neg c99] at H
                      exact absurd H (by simp)
          · replace c63 := Bool.eq_false_iff.mpr c63
            subst c63
            have H1 : (none) = some r := by rw [if_neg (show ¬ (false = true) by decide)] at H; exact H
            clear H
            have H := H1
            clear H1
            exact absurd H (by simp)
def laws_FnExactFlipGate.Pure : Prop := ∀ (a0_0 : Int) (l0_1 : List (S114)) (l0_2 : List Int) (a1 : Int), (Lit.int .i8 a0_0).wf = true → l0_1.length ≤ maxLen → (∀ x ∈ l0_1, (Lit.int .i8 x.f0).wf = true ∧ (Lit.int .i16 x.f1).wf = true ∧ (Lit.int .i16 x.f2).wf = true) → l0_2.length ≤ maxLen → (∀ x ∈ l0_2, (Lit.int .i16 x).wf = true) → (Lit.int .i64 a1).wf = true → ∃ k, laws_FnExactFlipGate.f k a0_0 l0_1 l0_2 a1 = some true
end Go.Proofs.Yteanndgkjoinmaa.X
