/- Roots of x^2 + px + q: both sides bring them to half roots, which come of one basis. -/
import Derived.Test.YtadfobooofkelaaYQuad3
import Derived.Test.YtadfobooofkelaaRows
import Derived.Below
import Derived.WalkKit
import Derived.ProofKit
import Derived.OpenShut
import Derived.ShutString
import Derived.ChangeOld
import Derived.SizedLaws
namespace Go.Proofs.Ytadfobooofkelaa.X
open Go.RowKit Go.Proofs.YtadfobooofkelaaW.PrintWords Go.Proofs.YtadfobooofkelaaW.PrintLast Go.Proofs.YtadfobooofkelaaW.PrintMore Go.Proofs.Ytadfobooofkelaa.Nim
set_option linter.unusedSimpArgs false
set_option linter.unusedVariables false
theorem iroot_l0 : ∀ (d j : Nat) (a : F 4), 15 - j = d → j ≤ 15 → Ev (fun k => impl_root.l0 k (tI a) (j : Int)) (tI (fpow a (2 ^ d))) := by
  intro d
  induction d with
  | zero =>
    intro j a hd hj
    have e : j = 15 := by omega
    subst e
    refine Ev.step (f := fun _ => some (tI a)) (fun k => ?_) ?_
    · simp only [impl_root.l0]; rw [if_neg (by omega)]
    · rw [show fpow a (2 ^ 0) = a from fpow_one a]; exact Ev.now _
  | succ d ih =>
    intro j a hd hj
    refine Ev.step (f := fun k => (impl_times.f k (tI a) (tI a)).bind fun t => impl_root.l0 k t ((j + 1 : Nat) : Int)) (fun k => ?_) (Ev.bind (times_evF a a) ?_)
    · simp only [impl_root.l0]
      rw [if_pos (by omega), w64n j (by omega)]
    · have := ih (j + 1) (a * a) (by omega) (by omega)
      rw [← fpow_two] at this
      rw [show 2 ^ (d + 1) = 2 * 2 ^ d by omega]
      exact this
theorem iroot_ev (a : F 4) : Ev (fun k => impl_root.f k (tI a)) (tI (fpow a 32768)) := iroot_l0 15 0 a (by omega) (by omega)
theorem spow_ev (a : F 4) : Ev (fun k => spec_l01Power.f k (tI a) 32768) (tI (fpow a 32768)) := by
  unfold spec_l01Power.f
  have := specPower_l0 32768 a 1 (by decide)
  rw [fone_mul, tI_one] at this
  exact this
theorem isort_ev (a b : Int) : Ev (fun k => impl_Nimber_145.f k [a, b]) (if b < a then [b, a] else [a, b]) := by
  unfold impl_Nimber_145.f impl_Nimber_171.f
  refine Ev.bind (g := fun _ => bits_Len.f (IntKind.u64.wrap ((([a, b] : List Int).length : Nat) : Int))) (a := 2) ⟨0, fun _ _ => show bits_Len.f (IntKind.u64.wrap 2) = some 2 from by decide +kernel⟩ ?_
  refine Ev.bind (a := if b < a then [b, a] else [a, b]) ?_ (Ev.now _)
  refine p_pos (by simp) ?_
  unfold impl_Nimber_179.f
  have e0 : wrap64 (0 + 1) = 1 := by decide +kernel
  have e2 : wrap64 (1 + 1) = 2 := by decide +kernel
  have e3 : wrap64 (1 - 1) = 0 := by decide +kernel
  have hl : ((([a, b] : List Int).length : Nat) : Int) = 2 := rfl
  rw [e0, hl]
  have hend : ∀ l : List Int, Ev (fun k => impl_Nimber_179.l0 k l 0 2 2) l := fun l =>
    Ev.step (f := fun _ => some l) (fun k => by simp only [impl_Nimber_179.l0]; rw [if_neg (by omega)]) (Ev.now _)
  refine Ev.step (f := fun k => impl_Nimber_179.l1 k [a, b] 0 2 1 1) (fun k => by simp only [impl_Nimber_179.l0]; rw [if_pos (by omega)]) ?_
  have hlt : impl_Nimber_185.f b a = some (decide (b < a)) := by
    simp [impl_Nimber_185.f, impl_Nimber_203.f]
  have r1 : rd [a, b] 1 = b := rfl
  have r0 : rd [a, b] 0 = a := rfl
  by_cases hc : b < a
  · rw [if_pos hc]
    refine Ev.step (f := fun k => impl_Nimber_179.l1 k [b, a] 0 2 1 0) (fun k => ?_) ?_
    · simp only [impl_Nimber_179.l1, e3, hl, r1, r0, hlt, Option.bind_some]
      rw [if_pos (by omega), if_pos (by omega), if_pos (by omega), if_pos (by omega), if_pos (by omega), if_pos (decide_eq_true hc)]
      rfl
    · refine Ev.step (f := fun k => impl_Nimber_179.l0 k [b, a] 0 2 2) (fun k => ?_) (hend _)
      simp only [impl_Nimber_179.l1, e2]
      rw [if_neg (by omega)]
  · rw [if_neg hc]
    refine Ev.step (f := fun k => impl_Nimber_179.l0 k [a, b] 0 2 2) (fun k => ?_) (hend _)
    simp only [impl_Nimber_179.l1, e3, e2, hl, r1, r0, hlt, Option.bind_some]
    rw [if_pos (by omega), if_pos (by omega), if_pos (by omega), if_pos (by omega), if_pos (by omega), if_neg (by simpa using hc)]
def roots (p q : F 4) : List Int :=
  if p = 0 then [tI (fpow q 32768)] else
    let r := redS (tI (q * (finvF p * finvF p)), 0) (Bs 15)
    if (r.1 == 0) = true then
      let x := tI (p * fof 4 r.2.toNat)
      if Go.bits .xor .u16 x (tI p) < x then [Go.bits .xor .u16 x (tI p), x] else [x, Go.bits .xor .u16 x (tI p)]
    else []
theorem half_tI (x : Int) : tI (fof 4 (redS (x, 0) (Bs 15)).2.toNat) = (redS (x, 0) (Bs 15)).2 := by
  have := red_ev (Bs 15) (x, 0) (show ev16 0 from by decide) Bs_ev
  exact tI_of _ this.1 this.2.1
theorem sroots_ev (p q : F 4) : Ev (fun k => spec_QuadraticRoots.f k (tI p) (tI q)) (roots p q) := by
  unfold spec_QuadraticRoots.f roots
  by_cases h : p = 0
  · rw [if_pos h]
    exact p_pos (tI_eq0.2 h) (Ev.bind (spow_ev q) (Ev.now _))
  · rw [if_neg h]
    refine p_neg (fun e => h (tI_eq0.1 e)) (Ev.bind (specInv_ev p) (ev_some (times_spec _ _) (ev_some (times_spec _ _) (Ev.bind (shalf_ev _) ?_))))
    have ht := half_tI (tI (q * (finvF p * finvF p)))
    generalize redS (tI (q * (finvF p * finvF p)), 0) (Bs 15) = r at ht ⊢
    by_cases hc : (r.1 == 0) = true
    · simp only [hc, if_true]
      rw [← ht]
      refine ev_some (times_spec _ _) ?_
      rw [ht]
      by_cases hlt : Go.bits .xor .u16 (tI (p * fof 4 r.2.toNat)) (tI p) < tI (p * fof 4 r.2.toNat)
      · simp only [if_pos hlt]; exact Ev.now _
      · simp only [if_neg hlt]; exact Ev.now _
    · simp only [if_neg hc]; exact Ev.now _
theorem finv_sq (p : F 4) : finvF (p * p) = finvF p * finvF p := fpow_mul p p 65534
theorem iroots_ev (p q : F 4) : Ev (fun k => impl_QuadraticRoots.f k (tI p) (tI q)) (roots p q) := by
  unfold impl_QuadraticRoots.f roots
  by_cases h : p = 0
  · rw [if_pos h]
    exact p_pos (tI_eq0.2 h) (Ev.bind (iroot_ev q) (Ev.now _))
  · rw [if_neg h]
    refine p_neg (fun e => h (tI_eq0.1 e)) (Ev.bind (times_evF p p) (Ev.bind (implInv_ev (p * p)) (Ev.bind (times_evF _ _) (Ev.bind (ihalf_ev _) ?_))))
    rw [finv_sq]
    have ht := half_tI (tI (q * (finvF p * finvF p)))
    generalize redS (tI (q * (finvF p * finvF p)), 0) (Bs 15) = r at ht ⊢
    by_cases hc : (r.1 == 0) = true
    · simp only [hc, if_true]
      have h1 := times_evF p (fof 4 r.2.toNat)
      have h2 := times_evF p (fof 4 r.2.toNat + 1)
      rw [← tI_xor, ht, tI_one] at h2
      rw [ht] at h1
      have e : tI (p * (fof 4 r.2.toNat + 1)) = Go.bits .xor .u16 (tI (p * fof 4 r.2.toNat)) (tI p) := by
        rw [fmul_add, fmul_one, tI_xor]
      rw [e] at h2
      exact Ev.bind h1 (Ev.bind h2 (Ev.bind (isort_ev _ _) (Ev.now _)))
    · simp only [if_neg hc]; exact Ev.now _
theorem roots_shape (p q : F 4) : roots p q = [] ∨ (∃ x, roots p q = [x]) ∨ ∃ x y, roots p q = [x, y] := by
  unfold roots
  split
  · exact .inr (.inl ⟨_, rfl⟩)
  · dsimp only
    split
    · split
      · exact .inr (.inr ⟨_, _, rfl⟩)
      · exact .inr (.inr ⟨_, _, rfl⟩)
    · exact .inl rfl
end Go.Proofs.Ytadfobooofkelaa.X
namespace Go.Proofs.Ytadfobooofkelaa.Pure
set_option linter.unusedSimpArgs false
open Go.RowKit Go.Proofs.Ytadfobooofkelaa.X Go.Proofs.YtadfobooofkelaaW.PrintWords Go.Proofs.YtadfobooofkelaaW.PrintLast Go.Proofs.Ytadfobooofkelaa.Nim
theorem wf16 {x : Int} (h : (Lit.int .u16 x).wf = true) : 0 ≤ x ∧ x < 65536 := by
  simp only [Lit.wf, Bool.and_eq_true, decide_eq_true_eq] at h
  have e1 : IntKind.u16.min = 0 := by decide +kernel
  have e2 : IntKind.u16.max = 65535 := by decide +kernel
  rw [e1, e2] at h
  omega
theorem eqN_ev (l : List Int) (h : l = [] ∨ (∃ x, l = [x]) ∨ ∃ x y, l = [x, y]) : Ev (fun k => laws_eqNimberS.f k l l) true := by
  refine ⟨3, fun k hk => ?_⟩
  obtain ⟨m, rfl⟩ : ∃ m, k = m + 3 := ⟨k - 3, by omega⟩
  have e0 : wrap64 1 = 1 := by decide +kernel
  have e2 : wrap64 2 = 2 := by decide +kernel
  rcases h with rfl | ⟨x, rfl⟩ | ⟨x, y, rfl⟩
  · simp [laws_eqNimberS.f, laws_eqNimberS.l0]
  · simp [laws_eqNimberS.f, laws_eqNimberS.l0, e0, e2]
  · simp [laws_eqNimberS.f, laws_eqNimberS.l0, e0, e2]
theorem mark_ev (l : List Int) (h : l = [] ∨ (∃ x, l = [x]) ∨ ∃ x y, l = [x, y]) : ∃ m n, 0 ≤ n ∧ Ev (fun k => laws_markNimberS.f k l 1) (n, m) ∧ Ev (fun k => laws_heldNimberS.f k m 1) n := by
  have e0 : wrap64 1 = 1 := by decide +kernel
  have e2 : wrap64 2 = 2 := by decide +kernel
  have e3 : wrap64 3 = 3 := by decide +kernel
  have u1 : IntKind.u16.wrap 1 = 1 := by decide
  have u2 : IntKind.u16.wrap 2 = 2 := by decide
  have r0 : rd [1] 0 = 1 := rfl
  have r1 : rd [1, 2] 0 = 1 := rfl
  have r2 : rd [1, 2] 1 = 2 := rfl
  rcases h with rfl | ⟨x, rfl⟩ | ⟨x, y, rfl⟩
  · refine ⟨[], 1, by omega, ⟨3, fun k hk => ?_⟩, ⟨3, fun k hk => ?_⟩⟩ <;> obtain ⟨m, rfl⟩ : ∃ m, k = m + 3 := ⟨k - 3, by omega⟩
    · simp [laws_markNimberS.f, laws_markNimberS.l0]
    · simp [laws_heldNimberS.f, laws_heldNimberS.l0]
  · refine ⟨[1], 2, by omega, ⟨3, fun k hk => ?_⟩, ⟨3, fun k hk => ?_⟩⟩ <;> obtain ⟨m, rfl⟩ : ∃ m, k = m + 3 := ⟨k - 3, by omega⟩
    · simp [laws_markNimberS.f, laws_markNimberS.l0, e0, e2, e3, u1, u2]
    · simp [laws_heldNimberS.f, laws_heldNimberS.l0, e0, e2, e3, u1, u2, r0]
  · refine ⟨[1, 2], 3, by omega, ⟨3, fun k hk => ?_⟩, ⟨3, fun k hk => ?_⟩⟩ <;> obtain ⟨m, rfl⟩ : ∃ m, k = m + 3 := ⟨k - 3, by omega⟩
    · simp [laws_markNimberS.f, laws_markNimberS.l0, e0, e2, e3, u1, u2]
    · simp [laws_heldNimberS.f, laws_heldNimberS.l0, e0, e2, e3, u1, u2, r1, r2]
theorem FnExactQuadraticRoots : laws_FnExactQuadraticRoots.Pure := by
  intro x y hx hy
  refine Ev.rounds ?_
  have hx' := wf16 hx
  have hy' := wf16 hy
  have ex := tI_of x hx'.1 hx'.2
  have ey := tI_of y hy'.1 hy'.2
  rw [← ex, ← ey]
  generalize fof 4 x.toNat = p
  generalize fof 4 y.toNat = q
  have hs := roots_shape p q
  have h1 := sroots_ev p q
  have h2 := iroots_ev p q
  generalize roots p q = l at hs h1 h2
  obtain ⟨m, n, hn, hm, hh⟩ := mark_ev l hs
  unfold laws_FnExactQuadraticRoots.f
  refine Ev.bind h1 (Ev.bind h2 (Ev.bind (eqN_ev l hs) (p_pos rfl (Ev.bind hm (Ev.bind hh (p_neg (by omega) (p_pos rfl (Ev.bind h2 (Ev.bind (eqN_ev l hs) (p_pos rfl (Ev.bind hh (p_neg (by omega) (p_pos rfl (Ev.now _))))))))))))))
end Go.Proofs.Ytadfobooofkelaa.Pure

-- Laid by wip/xprint.py of this session (the kit's print program, with some contracts given by hand). Not trusted: Lean checks it.
namespace Go.Proofs.Ytadfobooofkelaa.fnExactQuadraticRoots
open Go.ChangeShapes Go.WideShapes Go.ChangeAt Go.RowKit
open Go.ChangeMaps (open_string shut_string)
set_option linter.unusedVariables false
theorem own : ownKnob Try.prog.godebug = none := by kernel_rfl
set_option maxRecDepth 100000 in
theorem lifted (os : Os) (started : os.Started) (H : Type) (enc : TypeId × Value → H) :
    ReturnsInHanded {} Try.checked os 8 .any (Rows.fnExactQuadraticRootsSpec.pre6 enc Try.prog Try.f8 Rows.fnExactQuadraticRootsRow.domain false) (Rows.fnExactQuadraticRootsSpec.post enc Try.prog Try.f8 false true false false) := by
  refine returnsInHanded_of_change_sized (C := Try.checked) own started (by kernel_rfl) Try.func8
    (ChangeSpec.witness6 (enc := enc) (C := Try.checked) false ⟨#[], #[.int .u16 0, .int .u16 0], []⟩ 8 (by kernel_rfl) (by kernel_rfl) (by kernel_rfl) (by kernel_rfl)) ?_
  intro W base args ds gs before hval0 hW hcnd hsz0 _
  have hsz : (DataW.weightsEach Try.prog (Try.f8.params.toList ++ Rows.fnExactQuadraticRootsSpec.plain.varTypes Try.prog) (ds ++ gs)).all (· ≤ reachBytes) = true := hsz0
  have hval : ∀ (j : Nat) t v, Try.f8.params[j]? = some t → args[j]? = some v → Value.okWide Try.prog W .any base t v := hval0
  have hW' := hW
  obtain ⟨p, q, hA0, hV, rfl, hfz, hnd⟩ := hW
  have hA : DataW.TrodAll enc Try.prog W 0 (fun _ => true) true Try.f8.params.toList args.toList ds p := hA0
  rw [Try.params8] at hA hval hsz
  obtain ⟨v0, vs0, d0, ds0, p0, q0, hargs, rfl, rfl, h0, r0⟩ := trodAll_cons hA
  obtain ⟨v1, vs1, d1, ds1, p1, q1, rfl, rfl, rfl, h1, r1⟩ := trodAll_cons r0
  obtain ⟨rfl, rfl, rfl⟩ := trodAll_nil r1
  obtain rfl : args = #[v0, v1] := by cases args; simp_all
  obtain ⟨rfl, rfl⟩ := trodVars_none hV
  obtain ⟨a0, rfl, rfl, rfl, w0⟩ := open_int Try.underlying35 (hval 0 35 v0 rfl rfl) h0
  obtain ⟨a1, rfl, rfl, rfl, w1⟩ := open_int Try.underlying35 (hval 1 35 v1 rfl rfl) h1
  clear hA0 hval0 hsz0 hsz
  refine (X.laws_FnExactQuadraticRoots.walk Pure.FnExactQuadraticRoots a0 a1 W w0 w1).mono fun e W' ⟨he, bel⟩ => ?_
  subst he
  exact ⟨_, rfl, _, _, _, [], _, [], hW', trodAll_mk1 (shut_bool Try.underlying4 _), (trodAll_cons_mk (shut_int Try.underlying35 w0) (trodAll_cons_mk (shut_int Try.underlying35 w1) trodAll_mk0)), rfl, bel.frame _, fun h => by cases h⟩
theorem over : Rows.fnExactQuadraticRootsRow.holds Try.pinned (OpenSpec.ofChange Rows.fnExactQuadraticRootsSpec) :=
  OpenClaim.holds_of_wide 8 Try.f8 rfl rfl rfl rfl rfl rfl rfl ⟨rfl, rfl, rfl, rfl, rfl⟩ rfl rfl rfl rfl rfl (by kernel_rfl) Try.func8 (by kernel_rfl)
    (of_decide_eq_true (by kernel_rfl)) (by unfold Func.isWrapper; first | (rw [if_pos (by decide +kernel)]; kernel_rfl) | (rw [if_neg (by decide +kernel)]; exact ⟨rfl, rfl⟩))
    (fun os started H enc _ => lifted os started H enc)
theorem proved : Rows.FnExactQuadraticRootsSaid := over
end Go.Proofs.Ytadfobooofkelaa.fnExactQuadraticRoots
namespace Go.Proofs.Ytadfobooofkelaa
theorem fnExactQuadraticRoots_holds : Rows.FnExactQuadraticRootsSaid := fnExactQuadraticRoots.proved
end Go.Proofs.Ytadfobooofkelaa
