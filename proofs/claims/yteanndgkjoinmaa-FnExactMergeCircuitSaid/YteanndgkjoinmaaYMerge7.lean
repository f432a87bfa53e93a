/- Merging gates: the map of the program tells where the reference's search finds a gate. -/
import Derived.Test.YteanndgkjoinmaaYMerge6
import Derived.Test.YteanndgkjoinmaaRows
import Derived.Below
import Derived.WalkKit
import Derived.ProofKit
import Derived.OpenShut
import Derived.ShutString
import Derived.ChangeOld
import Derived.SizedLaws
import Derived.Carry
import Derived.Deep.Slices
import Derived.Deep.Fields
import Derived.ChangeSame
import Derived.Lib.SmallJoins
namespace Go.Proofs.Yteanndgkjoinmaa.X
open Go.RowKit Go.Proofs.YteanndgkjoinmaaW.PrintWords Go.Proofs.YteanndgkjoinmaaW.PrintLast Go.Proofs.YteanndgkjoinmaaW.PrintMore
set_option linter.unusedSimpArgs false
set_option linter.unusedVariables false
def gRange (g : S68) : Prop := -32768 ≤ g.f1 ∧ g.f1 ≤ 32767 ∧ -32768 ≤ g.f2 ∧ g.f2 ≤ 32767
theorem gOk_of (m : Int) : ∀ (gs : List S68) (i : Nat), i + gs.length ≤ 600 → gatesOkB m (i : Int) gs = true → (∀ g ∈ gs, gRange g) → gOk gs i = true
  | [], _, _, _, _ => rfl
  | g :: gs, i, hl, hb, hw => by
    rw [gatesOkB, Bool.and_eq_true] at hb
    have hr := hw g (List.mem_cons_self ..)
    have hl' : i + (gs.length + 1) ≤ 600 := hl
    have ih := gOk_of m gs (i + 1) (by omega) hb.2 (fun x hx => hw x (List.mem_cons_of_mem _ hx))
    rw [gOk, ih, Bool.and_true]
    by_cases hp : g.f0 = 2 ∨ g.f0 = 3
    · rw [if_pos hp]
      have h1 := hb.1
      unfold gateOkB at h1
      obtain ⟨r1, r2, r3, r4⟩ := hr
      rw [if_neg (by omega), if_neg (by omega), if_pos hp, w64_in (x := g.f1) (by omega) (by omega), w64_in (x := g.f2) (by omega) (by omega), w64_in (x := (i : Int) - 1) (by omega) (by omega)] at h1
      simp only [Bool.and_eq_true, decide_eq_true_eq] at h1
      rw [decide_eq_true_eq]
      omega
    · rw [if_neg hp]
theorem oOk_of (n : Nat) (hn : n ≤ 600) (os : List Int) (h : os.all (outOkB n) = true) (hw : ∀ o ∈ os, -32768 ≤ o ∧ o ≤ 32767) : oOk n os = true := by
  rw [oOk, List.all_eq_true]
  rw [List.all_eq_true] at h
  intro o ho
  have h1 := h o ho
  have h2 := hw o ho
  unfold outOkB at h1
  rw [w64_in (x := o) (by omega) (by omega), w64_in (x := (n : Int) - 1) (by omega) (by omega)] at h1
  simp only [Bool.and_eq_true, decide_eq_true_eq] at h1
  rw [decide_eq_true_eq]
  omega
theorem pair_specT (a b c : Int) : spec_l07Joins.f a b c = some (decide (a = 2 ∨ a = 3)) := by
  unfold spec_l07Joins.f
  by_cases h : a = 2
  · simp [h]
  · rw [if_neg h]; by_cases h3 : a = 3 <;> simp [h, h3]
theorem pair_implT (a b c : Int) : impl_Gate_isPair.f a b c = some (decide (a = 2 ∨ a = 3)) := by
  unfold impl_Gate_isPair.f
  by_cases h : a = 2
  · simp [h]
  · rw [if_neg h]; by_cases h3 : a = 3 <;> simp [h, h3]
theorem rd_app (pl q : List Int) (x : Int) (h0 : 0 ≤ x) (h : x < (pl.length : Int)) : rd (pl ++ q) x = rd pl x := by
  unfold rd
  rw [List.getD_eq_getElem?_getD, List.getD_eq_getElem?_getD, List.getElem?_append_left (by omega)]
theorem renL_len (step : Nat → S68 → List S68 → Int × List S68) (hs : ∀ i y lg, lg.length ≤ i → (step i y lg).2.length ≤ i + 1) : ∀ (l : List S68) (i : Nat) (pl : List Int) (og : List S68), og.length ≤ i → (renL step l i pl og).2.length ≤ i + l.length
  | [], i, pl, og, h => by simpa [renL] using h
  | g :: l, i, pl, og, h => by
    rw [renL]
    have := renL_len step hs l (i + 1) (pl ++ [(step i (if g.f0 = 2 ∨ g.f0 = 3 then ⟨g.f0, rd pl g.f1, rd pl g.f2⟩ else g) og).1]) (step i (if g.f0 = 2 ∨ g.f0 = 3 then ⟨g.f0, rd pl g.f1, rd pl g.f2⟩ else g) og).2 (hs _ _ _ h)
    simp only [List.length_cons]
    omega
theorem wf_i16 {x : Int} (h : (Lit.int .i16 x).wf = true) : -32768 ≤ x ∧ x ≤ 32767 := by
  simp only [Lit.wf, Bool.and_eq_true, decide_eq_true_eq] at h
  have e1 : IntKind.i16.min = -32768 := by decide +kernel
  have e2 : IntKind.i16.max = 32767 := by decide +kernel
  rw [e1, e2] at h
  omega
end Go.Proofs.Yteanndgkjoinmaa.X

namespace Go.Proofs.Yteanndgkjoinmaa.X.Mg
open Go.RowKit Go.Proofs.YteanndgkjoinmaaW.PrintWords Go.Proofs.YteanndgkjoinmaaW.PrintLast Go.Proofs.YteanndgkjoinmaaW.PrintMore Go.Maps
set_option linter.unusedSimpArgs false
set_option linter.unusedVariables false
def same (x z : S68) : Prop := x.f0 = z.f0 ∧ x.f1 = z.f1 ∧ x.f2 = z.f2
instance (x z : S68) : Decidable (same x z) := inferInstanceAs (Decidable (_ ∧ _))
theorem same_iff (x z : S68) : same x z ↔ x = z := by
  obtain ⟨a, b, c⟩ := x
  obtain ⟨a', b', c'⟩ := z
  simp [same]
def fidx : List S68 → S68 → Nat
  | [], _ => 0
  | x :: r, z => if same x z then 0 else fidx r z + 1
theorem fidx_le (z : S68) : ∀ a, fidx a z ≤ a.length
  | [] => Nat.le_refl _
  | x :: r => by
    rw [fidx]
    have := fidx_le z r
    split
    · omega
    · simp only [List.length_cons]; omega
theorem fidx_snoc (x z : S68) : ∀ a, fidx (a ++ [x]) z = if fidx a z < a.length then fidx a z else if same x z then a.length else a.length + 1
  | [] => by simp [fidx]
  | y :: r => by
    rw [List.cons_append, fidx, fidx, fidx_snoc x z r]
    by_cases h : same y z
    · simp [h]
    · simp only [if_neg h, List.length_cons, Nat.add_lt_add_iff_right]
      by_cases h1 : fidx r z < r.length
      · simp [h1]
      · rw [if_neg h1, if_neg h1]
        by_cases h2 : same x z <;> simp [h2]
def rStep (i : Nat) (y : S68) (og : List S68) : Int × List S68 := (IntKind.i16.wrap ((fidx og (sw y) : Nat) : Int), if fidx og (sw y) < og.length then og else og ++ [sw y])
theorem rStep_len (i : Nat) (y : S68) (lg : List S68) (h : lg.length ≤ i) : (rStep i y lg).2.length ≤ i + 1 := by
  simp only [rStep]
  by_cases hc : fidx lg (sw y) < lg.length
  · rw [if_pos hc]; omega
  · rw [if_neg hc]; simp; omega
def ND : List S68 → Prop
  | [] => True
  | x :: r => wfg x ∧ fidx r.reverse x = r.length ∧ ND r
theorem map_tells (z : S68) (hz : wfg z) : ∀ r, ND r → (Maps.has (mDr r) (kg z) = true ∧ fidx r.reverse z < r.length ∧ ansOf (mDr r) z = IntKind.i16.wrap ((fidx r.reverse z : Nat) : Int)) ∨ (Maps.has (mDr r) (kg z) = false ∧ fidx r.reverse z = r.length)
  | [], _ => .inr ⟨rfl, rfl⟩
  | x :: r, h => by
    obtain ⟨hx, hf, hr⟩ := h
    have ih := map_tells z hz r hr
    rw [List.reverse_cons, fidx_snoc, List.length_reverse, List.length_cons]
    by_cases e : z = x
    · subst e
      rw [hf, if_neg (Nat.lt_irrefl _), if_pos ((same_iff z z).2 rfl)]
      refine .inl ⟨has_put_same (isMap_mDr r) (kg_lit z) _, Nat.lt_succ_self _, ?_⟩
      unfold ansOf mDr
      rw [atKey_put_same (isMap_mDr r) (kg_lit z)]
    · have hk : kg z ≠ kg x := fun hk => e (kg_inj hz hx hk)
      have hs : ¬ same x z := fun hs => e ((same_iff x z).1 hs).symm
      have e1 : Maps.has (mDr (x :: r)) (kg z) = Maps.has (mDr r) (kg z) := has_put_other hk _
      have e2 : ansOf (mDr (x :: r)) z = ansOf (mDr r) z := by
        unfold ansOf
        rw [show mDr (x :: r) = (mDr r).put (kg x) (.lit (.int .i16 (IntKind.i16.wrap r.length))) from rfl, atKey_put_other hk]
      rw [e1, e2]
      rcases ih with ⟨h1, h2, h3⟩ | ⟨h1, h2⟩
      · rw [if_pos h2]
        exact .inl ⟨h1, by omega, h3⟩
      · rw [if_neg (by omega), if_neg hs]
        exact .inr ⟨h1, rfl⟩
theorem step_same (i : Nat) (y : S68) (og : List S68) (hy : wfg y) (h : ND og.reverse) : mStep i y og = rStep i y og ∧ ND (rStep i y og).2.reverse := by
  have hz := sw_wf hy
  have hm := map_tells (sw y) hz og.reverse h
  rw [List.reverse_reverse, List.length_reverse] at hm
  unfold mStep rStep mAns mLst mD
  rcases hm with ⟨h1, h2, h3⟩ | ⟨h1, h2⟩
  · rw [if_pos h1, if_pos h1, if_pos h2, h3]
    exact ⟨rfl, h⟩
  · rw [if_neg (by rw [h1]; simp), if_neg (by rw [h1]; simp), if_neg (by omega), h2]
    refine ⟨rfl, ?_⟩
    rw [List.reverse_append]
    show ND (sw y :: og.reverse)
    exact ⟨hz, by rw [List.reverse_reverse, List.length_reverse]; exact h2, h⟩
theorem renL_same : ∀ (l : List S68) (i : Nat) (pl : List Int) (og : List S68), (∀ x ∈ l, wfg x) → (∀ v ∈ pl, (Lit.int .i16 v).wf = true) → ND og.reverse → renL mStep l i pl og = renL rStep l i pl og
  | [], _, _, _, _, _, _ => rfl
  | g :: l, i, pl, og, hl, hp, ho => by
    have hg := hl g (List.mem_cons_self ..)
    have hy : wfg (if g.f0 = 2 ∨ g.f0 = 3 then ⟨g.f0, rd pl g.f1, rd pl g.f2⟩ else g) := by
      split
      · exact ⟨hg.1, rd_wf hp _, rd_wf hp _⟩
      · exact hg
    obtain ⟨e1, e2⟩ := step_same i _ og hy ho
    rw [renL, renL, e1]
    refine renL_same l (i + 1) _ _ (fun x hx => hl x (List.mem_cons_of_mem _ hx)) ?_ e2
    intro v hv
    rcases List.mem_append.1 hv with hv | hv
    · exact hp v hv
    · rw [List.mem_singleton] at hv
      subst hv
      exact wf_wrap16 _
theorem search_l1 (a0 : Int) (gs : List S68) (os : List Int) (pl : List Int) (i : Nat) (og : List S68) (z : S68) (r : Int × List S68 × List Int × Int) (hi : i < pl.length) (hp : pl.length ≤ 600) (ho : og.length ≤ 600)
    (h : Ev (fun k => spec_MergeCircuit.l0 k (pl.set i (IntKind.i16.wrap ((fidx og z : Nat) : Int))) ((i + 1 : Nat) : Int) a0 gs os a0 (if fidx og z < og.length then og else og ++ [z])) r) : ∀ (d j : Nat), og.length - j = d → j ≤ og.length → fidx og z = j + fidx (og.drop j) z →
    Ev (fun k => spec_MergeCircuit.l1 k pl (i : Int) (j : Int) a0 gs os a0 og z.f0 z.f1 z.f2) r := by
  intro d
  have hw : wrap64 ((i : Int) + 1) = ((i + 1 : Nat) : Int) := by rw [w64_in (by omega) (by omega)]; rfl
  induction d with
  | zero =>
    intro j hd hj hf
    have e : j = og.length := by omega
    rw [e, List.drop_length, fidx, Nat.add_zero] at hf
    rw [hf, if_neg (Nat.lt_irrefl _)] at h
    refine Ev.step (fun k => ?_) h
    simp only [spec_MergeCircuit.l1]
    rw [if_neg (by omega), if_pos (by omega), if_pos (by omega), if_pos (by omega), if_pos (by omega), hw, e, Int.toNat_natCast]
  | succ d ih =>
    intro j hd hj hf
    have hlt : j < og.length := by omega
    obtain ⟨x, hx⟩ : ∃ x, og[j]? = some x := ⟨og[j], List.getElem?_eq_getElem hlt⟩
    have hrd : rd_T68 og (j : Int) = x := by simp [rd_T68, List.getD_eq_getElem?_getD, hx]
    have hdrop : og.drop j = x :: og.drop (j + 1) := by
      rw [List.drop_eq_getElem_cons hlt]
      have := List.getElem?_eq_getElem hlt
      rw [hx] at this
      cases this; rfl
    rw [hdrop, fidx] at hf
    have hw2 : wrap64 ((j : Int) + 1) = ((j + 1 : Nat) : Int) := by rw [w64_in (by omega) (by omega)]; rfl
    by_cases hs : same x z
    · rw [if_pos hs, Nat.add_zero] at hf
      rw [hf, if_pos hlt] at h
      refine Ev.step (fun k => ?_) h
      simp only [spec_MergeCircuit.l1, hrd]
      obtain ⟨s0, s1, s2⟩ := hs
      rw [if_pos (by omega), if_pos (by omega), if_neg (by simp [s0, s1, s2]), if_neg (by omega), if_pos (by omega), if_pos (by omega), hw, Int.toNat_natCast]
    · rw [if_neg hs] at hf
      refine Ev.step (fun k => ?_) (ih (j + 1) (by omega) (by omega) (by omega))
      simp only [spec_MergeCircuit.l1, hrd]
      rw [if_pos (by omega), if_pos (by omega), if_pos ?_, hw2]
      by_cases t0 : x.f0 = z.f0
      · by_cases t1 : x.f1 = z.f1
        · by_cases t2 : x.f2 = z.f2
          · exact absurd ⟨t0, t1, t2⟩ hs
          · simp [t2]
        · simp [t1]
      · simp [t0]
theorem merge_l2 (a0 : Int) (gs : List S68) (os : List Int) (hg : gs.length ≤ 600) (ho : os.length ≤ 16) (hok : oOk gs.length os = true) (pl : List Int) (hpl : pl.length = gs.length) (og : List S68) : ∀ (d j : Nat) (ol : List Int), os.length - j = d → j ≤ os.length → ol = (os.take j).map (rd pl) →
    Ev (fun k => spec_MergeCircuit.l2 k pl (j : Int) a0 gs os a0 og ol) (a0, og, os.map (fun o => rd pl o), 0) := by
  intro d
  induction d with
  | zero =>
    intro j ol hd hj hol
    have e : j = os.length := by omega
    subst e
    rw [List.take_length] at hol
    subst hol
    refine Ev.step (f := fun _ => some (a0, og, os.map (fun o => rd pl o), 0)) (fun k => ?_) (Ev.now _)
    simp only [spec_MergeCircuit.l2]
    rw [if_neg (by omega)]
  | succ d ih =>
    intro j ol hd hj hol
    have hlt : j < os.length := by omega
    obtain ⟨x, hx⟩ : ∃ x, os[j]? = some x := ⟨os[j], List.getElem?_eq_getElem hlt⟩
    have hrd : rd os (j : Int) = x := by simp [rd, List.getD_eq_getElem?_getD, hx]
    obtain ⟨o1, o2⟩ := oOk_get hok j x hx
    have hlen : ol.length ≤ 16 := by rw [hol, List.length_map, List.length_take]; omega
    refine Ev.step (fun k => ?_) (ih (j + 1) (ol ++ [rd pl x]) (by omega) (by omega) (by rw [hol, List.take_add_one, hx]; simp))
    simp only [spec_MergeCircuit.l2, hrd]
    rw [if_pos (by omega), if_pos (by omega), if_pos o1, if_pos (by omega), if_pos (by omega), w64_in (by omega) (by omega)]
    rfl
theorem merge_l0 (a0 : Int) (gs : List S68) (os : List Int) (hg : gs.length ≤ 600) (ho : os.length ≤ 16) (hgk : gOk gs 0 = true) (hok : oOk gs.length os = true) : ∀ (d i : Nat) (pl : List Int) (og : List S68), gs.length - i = d → i ≤ gs.length → pl.length = i → og.length ≤ i →
    Ev (fun k => spec_MergeCircuit.l0 k (pl ++ List.replicate (gs.length - i) 0) (i : Int) a0 gs os a0 og) (a0, (renL rStep (gs.drop i) i pl og).2, os.map (fun o => rd (renL rStep (gs.drop i) i pl og).1 o), 0) := by
  intro d
  induction d with
  | zero =>
    intro i pl og hd hi hpl hog
    have e : i = gs.length := by omega
    rw [show gs.length - i = 0 by omega, List.replicate_zero, List.append_nil, e, List.drop_length]
    refine Ev.step (fun k => ?_) (merge_l2 a0 gs os hg ho hok pl (by omega) og os.length 0 [] (by omega) (by omega) rfl)
    simp only [spec_MergeCircuit.l0]
    rw [if_neg (by omega)]
    rfl
  | succ d ih =>
    intro i pl og hd hi hpl hog
    have hlt : i < gs.length := by omega
    obtain ⟨x, hx⟩ : ∃ x, gs[i]? = some x := ⟨gs[i], List.getElem?_eq_getElem hlt⟩
    have hrd : rd_T68 gs (i : Int) = x := by simp [rd_T68, List.getD_eq_getElem?_getD, hx]
    have hdrop : gs.drop i = x :: gs.drop (i + 1) := by
      rw [List.drop_eq_getElem_cons hlt]
      have := List.getElem?_eq_getElem hlt
      rw [hx] at this
      cases this; rfl
    have hk := gOk_get gs 0 hgk i x hx
    rw [Nat.zero_add] at hk
    rw [hdrop, renL]
    have hrep : List.replicate (gs.length - i) (0 : Int) = 0 :: List.replicate (gs.length - (i + 1)) 0 := by
      rw [show gs.length - i = (gs.length - (i + 1)) + 1 by omega, List.replicate_succ]
    have hlen : (pl ++ List.replicate (gs.length - i) (0 : Int)).length = gs.length := by simp; omega
    have hset : ∀ v : Int, (pl ++ List.replicate (gs.length - i) (0 : Int)).set i v = (pl ++ [v]) ++ List.replicate (gs.length - (i + 1)) 0 := by
      intro v
      rw [hrep, List.set_append_right _ _ (by omega)]
      simp [hpl]
    have c1 : (i : Int) < (gs.length : Int) := by omega
    have c2 : (0 : Int) ≤ (i : Int) := by omega
    -- from the gate that is looked for on
    have key : ∀ y : S68, Ev (fun k => spec_MergeCircuit.j1 k (pl ++ List.replicate (gs.length - i) (0 : Int)) (i : Int) a0 gs os a0 og (sw y).f0 (sw y).f1 (sw y).f2) (a0, (renL rStep (gs.drop (i + 1)) (i + 1) (pl ++ [(rStep i y og).1]) (rStep i y og).2).2, os.map (fun o => rd (renL rStep (gs.drop (i + 1)) (i + 1) (pl ++ [(rStep i y og).1]) (rStep i y og).2).1 o), 0) := by
      intro y
      refine Ev.step (fun k => by simp only [spec_MergeCircuit.j1]; rfl) (search_l1 a0 gs os _ i og (sw y) _ (by omega) (by omega) (by omega) ?_ og.length 0 (by omega) (by omega) (by simp))
      rw [hset]
      exact ih (i + 1) (pl ++ [(rStep i y og).1]) (rStep i y og).2 (by omega) (by omega) (by simp [hpl]) (rStep_len i y og hog)
    by_cases hp : x.f0 = 2 ∨ x.f0 = 3
    · obtain ⟨k1, k2, k3, k4⟩ := hk hp
      have d1 : x.f1 < ((pl ++ List.replicate (gs.length - i) (0 : Int)).length : Int) := by omega
      have d2 : x.f2 < ((pl ++ List.replicate (gs.length - i) (0 : Int)).length : Int) := by omega
      simp only [if_pos hp]
      have hkey := key ⟨x.f0, rd pl x.f1, rd pl x.f2⟩
      refine Ev.step (fun k => ?_) hkey
      simp only [spec_MergeCircuit.l0, hrd, pair_specT, Option.bind_some]
      rw [if_pos c1, if_pos c2, if_pos (by simp [hp]), if_pos k1, if_pos d1, if_pos k3, if_pos d2, rd_app pl _ x.f1 k1 (by omega), rd_app pl _ x.f2 k3 (by omega)]
      unfold sw
      by_cases hq : rd pl x.f2 < rd pl x.f1
      · rw [if_pos hq, if_pos ⟨hp, hq⟩]
      · rw [if_neg hq, if_neg (fun h => hq h.2)]
    · simp only [if_neg hp]
      have hkey := key x
      have e : sw x = x := by unfold sw; rw [if_neg (fun h => hp h.1)]
      rw [e] at hkey
      refine Ev.step (fun k => ?_) hkey
      simp only [spec_MergeCircuit.l0, hrd, pair_specT, Option.bind_some]
      rw [if_pos c1, if_pos c2, if_neg (by simp [hp])]
theorem merge_ev (n : Int) (gs : List S68) (os : List Int) (hwg : ∀ g ∈ gs, wfg g) (hw2 : ∀ o ∈ os, -32768 ≤ o ∧ o ≤ 32767) :
    ∃ R : Int × List S68 × List Int × Int, R.2.1.length ≤ 600 ∧ R.2.2.1.length ≤ 16 ∧ Ev (fun k => spec_MergeCircuit.f k n gs os) R ∧ Ev (fun k => impl_MergeCircuit.f k n gs os) R := by
  have hw : ∀ g ∈ gs, gRange g := fun g hg => ⟨(wf_i16 (hwg g hg).2.1).1, (wf_i16 (hwg g hg).2.1).2, (wf_i16 (hwg g hg).2.2).1, (wf_i16 (hwg g hg).2.2).2⟩
  unfold spec_MergeCircuit.f impl_MergeCircuit.f hand_MergeCircuit.f
  cases hok : okB n gs os with
  | false =>
    have h1 := l07Ok_ev n gs os
    have h2 := valid_ev n gs os
    rw [hok] at h1 h2
    exact ⟨(0, [], [], 1), by simp, by simp, Ev.bind h1 (ev_neg (by simp) (Ev.now _)), Ev.bind h2 (ev_neg (by simp) (Ev.now _))⟩
  | true =>
    have h1 := l07Ok_ev n gs os
    have h2 := valid_ev n gs os
    rw [hok] at h1 h2
    obtain ⟨l1, l2⟩ := okB_len hok
    have hk : gOk gs 0 = true ∧ oOk gs.length os = true := by
      unfold okB at hok
      rw [Bool.and_eq_true, Bool.and_eq_true] at hok
      exact ⟨gOk_of _ gs 0 (by omega) hok.2.1 hw, oOk_of _ l1 os hok.2.2 hw2⟩
    have e3 := merge_l0 n gs os l1 l2 hk.1 hk.2 gs.length 0 [] [] (by omega) (by omega) rfl (by simp)
    rw [List.drop_zero, List.nil_append, Nat.sub_zero] at e3
    have hs := renL_same gs 0 [] [] hwg (fun v hv => by cases hv) trivial
    rw [hs]
    refine ⟨_, ?_, ?_, Ev.bind h1 (ev_pos rfl (ev_pos (by omega) (ev_pos (by omega) ?_))), Ev.bind h2 (ev_pos rfl (ev_pos ?_ (Ev.now _)))⟩
    · have := renL_len rStep rStep_len gs 0 [] [] (by simp)
      dsimp only
      omega
    · simpa using l2
    · rw [Int.toNat_natCast]
      exact e3
    · rw [hk.1, hk.2, Bool.and_true, Bool.and_true, Bool.and_eq_true, decide_eq_true_eq, List.all_eq_true]
      exact ⟨⟨l1, l2⟩, fun g hg => wfgB_of.2 (hwg g hg)⟩
end Go.Proofs.Yteanndgkjoinmaa.X.Mg

namespace Go.Proofs.Yteanndgkjoinmaa.Pure
open Go.RowKit Go.Proofs.Yteanndgkjoinmaa.X Go.Proofs.YteanndgkjoinmaaW.PrintWords Go.Proofs.YteanndgkjoinmaaW.PrintLast
theorem FnExactMergeCircuit : laws_FnExactMergeCircuit.Pure := by
  intro n l1 l2 _ hm1 hw1 hm2 hw2
  refine Ev.rounds ?_
  unfold laws_FnExactMergeCircuit.f
  obtain ⟨t, ht, hlen⟩ := szCircuit_eq n l1 l2 hm1 hm2
  refine ev_some ht ?_
  by_cases h0 : t < 0
  · exact ev_pos h0 (Ev.now _)
  obtain ⟨hg, ho⟩ := hlen h0
  refine ev_neg h0 ?_
  have hto := toCircuit_ev n l1 l2 hg ho
  have hgl : (l1.map cvG).length ≤ 1048576 := by simpa using hg
  obtain ⟨R, hf1, hf2, hs, hi⟩ := Mg.merge_ev n (l1.map cvG) l2 (fun g hgm => by
    obtain ⟨x, hx, rfl⟩ := List.mem_map.1 hgm
    exact hw1 x hx) (fun o hom => wf_i16 (hw2 o hom))
  refine Ev.bind hto (Ev.bind hs (Ev.bind hto (Ev.bind hi ?_)))
  obtain ⟨r1, r2, r3, r4⟩ := R
  dsimp only at hf1 hf2 ⊢
  have hr2 : r2.length ≤ 1048576 := by omega
  have hr3 : r3.length ≤ 1048576 := by omega
  refine Ev.bind (eqCircuit_ev r1 r2 r3 hr2 hr3) (ev_pos rfl ?_)
  refine Ev.step (fun k => by simp only [laws_FnExactMergeCircuit.j0, bne_self_eq_false, Bool.false_eq_true, if_false]; rfl) ?_
  refine Ev.bind hto (Ev.bind (eqCircuit_ev n (l1.map cvG) l2 hgl ho) (ev_pos rfl ?_))
  refine Ev.bind (markCircuit_ev n (l1.map cvG) l2 1 (by omega) (by omega) hgl ho) (ev_neg (by dsimp only; omega) ?_)
  refine Ev.bind (eqCircuit_ev r1 r2 r3 hr2 hr3) (ev_pos rfl ?_)
  refine Ev.step (fun k => by simp only [laws_FnExactMergeCircuit.j1, Bool.false_eq_true, if_false]; rfl) ?_
  refine Ev.bind (markCircuit_ev r1 r2 r3 1 (by omega) (by omega) hr2 hr3) ?_
  dsimp only
  have hh := heldCircuit_ev r1 r2.length r3.length 1 (by omega) (by omega) hr2 hr3
  refine Ev.bind hh (ev_neg (by omega) (ev_pos rfl ?_))
  refine Ev.bind hto (Ev.bind hi (Ev.bind (eqCircuit_ev r1 r2 r3 hr2 hr3) (ev_pos rfl ?_)))
  refine Ev.step (fun k => by simp only [laws_FnExactMergeCircuit.j2, bne_self_eq_false, Bool.false_eq_true, if_false]; rfl) ?_
  exact Ev.bind hh (ev_neg (by omega) (ev_pos rfl (Ev.now _)))
end Go.Proofs.Yteanndgkjoinmaa.Pure

-- Laid by wip/xprint.py of this session (the kit's print program, with some contracts given by hand). Not trusted: Lean checks it.
namespace Go.Proofs.Yteanndgkjoinmaa.fnExactMergeCircuit
open Go.ChangeShapes Go.WideShapes Go.ChangeAt Go.RowKit Go.Joins Go.Deep
open Go.ChangeMaps (open_string shut_string)
open Go.Proofs.YteanndgkjoinmaaW.PrintWords Go.Proofs.YteanndgkjoinmaaW.PrintLast Go.Proofs.Yteanndgkjoinmaa.X
set_option linter.unusedVariables false
theorem own : ownKnob Try.prog.godebug = none := by kernel_rfl
theorem laidOut : laidOutB Try.prog = true := by kernel_rfl
theorem open_slice_fields {H : Type} {enc : TypeId × Value → H} {P : Program} {w : World} {base : Nat} {spare : Nat → Bool} {held : Bool} {t e : TypeId} {fs : Array Field} {fuel : Nat} {cs : List Value} {x : DataW H × List MemPlace} (ht : P.underlying t = some (.slice e)) (he : P.underlying e = some (.struct fs))
    (hone : oneCellFields P fs = true) (hC : P.cellsOf e = fs.size) (h : DataW.trod enc P w base spare held fuel t cs = some x) :
    (cs = [.slice none 0 0]) ∨
    ∃ (a : Addr) (len cap m : Nat), cs = [.slice (some a) len cap] ∧ len ≤ cap ∧ cap ≤ maxLen ∧ m = (if spare a.block then cap else len) ∧
      ∀ i, i < m → ∃ (n : Nat), ∀ (j : Nat) (f : Field), fs[j]? = some f → ∃ (v : Value) (y : DataW H × List MemPlace), w.cell? (a.add (i * fs.size + j)) = some v ∧ DataW.trod enc P w base spare held n f.type [v] = some y := by
  rcases open_slice ht h with h0 | ⟨a, len, cap, m, n, D, Pl, hcs, hb, hl, hm, hmm, hx, hi⟩
  · exact .inl h0.1
  · refine .inr ⟨a, len, cap, m, hcs, hl, hm, hmm, fun i him => ?_⟩
    obtain ⟨cs', hc, ht'⟩ := hi i him
    rw [hC] at hc
    obtain ⟨ys, n', hn', hy, hlen, hyl, hf⟩ := DataW.trod_struct he ht'
    obtain ⟨_, hcl, hat⟩ := World.cells?_some hc
    refine ⟨n', fun j f hj => ?_⟩
    obtain ⟨ho, hk⟩ := hone_of hone j f hj
    have hjl : j < fs.size := (Array.getElem?_eq_some_iff.1 hj).1
    have hcell := hat j hjl
    have hv : cs'[j]? = some (cs'[j]'(by omega)) := List.getElem?_eq_getElem (by omega)
    have h1 := hf j f hj
    rw [ho, hk] at h1
    have hone' : (cs'.drop j).take 1 = [cs'[j]'(by omega)] := by
      rw [List.drop_eq_getElem_cons (by omega)]
      rfl
    rw [hone'] at h1
    have hys : ys[j]? = some (ys[j]'(by omega)) := List.getElem?_eq_getElem (by omega)
    refine ⟨_, _, ?_, h1.trans hys⟩
    rw [← Go.Deep.add_add, hcell, hv]
theorem list_of {α : Type} (Q : Nat → α → Prop) : ∀ n : Nat, (∀ i, i < n → ∃ x, Q i x) → ∃ l : List α, l.length = n ∧ ∀ i x, l[i]? = some x → Q i x
  | 0, _ => ⟨[], rfl, fun i x h => by simp at h⟩
  | n + 1, h => by
    obtain ⟨l, hl, hq⟩ := list_of Q n (fun i hi => h i (by omega))
    obtain ⟨x, hx⟩ := h n (by omega)
    refine ⟨l ++ [x], by simp [hl], fun i y hy => ?_⟩
    rcases Nat.lt_or_ge i l.length with hi | hi
    · rw [List.getElem?_append_left hi] at hy
      exact hq i y hy
    · rw [List.getElem?_append_right hi] at hy
      have : i = l.length := by
        have := (List.getElem?_eq_some_iff.1 hy).1
        simp at this
        omega
      subst this
      simp at hy
      subst hy
      rw [hl]
      exact hx
theorem open_t23 {H : Type} {enc : TypeId × Value → H} {W : World} {spare : Nat → Bool} {held : Bool} {base fuel : Nat} {c : Value} {y : DataW H × List MemPlace} (hsp : ∀ b, spare b = true) (h : DataW.trod enc Try.prog W base spare held fuel 23 [c] = some y) : ∃ (a : Option Addr) (cap : Nat) (l : List (S114)), c = .slice a l.length cap ∧ l.length ≤ cap ∧ Kd.C k114 W a l.length l ∧ l.length ≤ maxLen ∧ (∀ x ∈ l, (Lit.int .i8 x.f0).wf = true ∧ (Lit.int .i16 x.f1).wf = true ∧ (Lit.int .i16 x.f2).wf = true) := by
  rcases open_slice_fields Try.underlying23 Try.underlying114 (by kernel_rfl) (by kernel_rfl) h with hcs | ⟨x, ln, cp, m, hcs, hl, hm, hmm, hi⟩
  · obtain rfl : c = .slice none 0 0 := by simpa using hcs
    exact ⟨none, 0, [], rfl, Nat.le_refl _, Kd.C_nil _ _, by simp [maxLen], fun x hx => by cases hx⟩
  · obtain rfl : c = .slice (some x) ln cp := by simpa using hcs
    rw [if_pos (hsp _)] at hmm
    have hx : ∀ i, i < ln → ∃ s : S114, ((Lit.int .i8 s.f0).wf = true ∧ (Lit.int .i16 s.f1).wf = true ∧ (Lit.int .i16 s.f2).wf = true) ∧ W.cell? (x.add (i * 3 + 0)) = some (.int .i8 s.f0) ∧ W.cell? (x.add (i * 3 + 1)) = some (.int .i16 s.f1) ∧ W.cell? (x.add (i * 3 + 2)) = some (.int .i16 s.f2) := by
      intro i hi'
      obtain ⟨n, hf⟩ := hi i (by omega)
      obtain ⟨v0, y0, hc0, ht0⟩ := hf 0 _ rfl
      obtain ⟨z0, e0, _, w0⟩ := DataW.trod_int Try.underlying22 ht0
      obtain rfl : v0 = .int .i8 z0 := by simpa using e0
      obtain ⟨v1, y1, hc1, ht1⟩ := hf 1 _ rfl
      obtain ⟨z1, e1, _, w1⟩ := DataW.trod_int Try.underlying66 ht1
      obtain rfl : v1 = .int .i16 z1 := by simpa using e1
      obtain ⟨v2, y2, hc2, ht2⟩ := hf 2 _ rfl
      obtain ⟨z2, e2, _, w2⟩ := DataW.trod_int Try.underlying66 ht2
      obtain rfl : v2 = .int .i16 z2 := by simpa using e2
      exact ⟨⟨z0, z1, z2⟩, ⟨w0, w1, w2⟩, hc0, hc1, hc2⟩
    obtain ⟨l, hll, hq⟩ := list_of _ ln hx
    subst hll
    refine ⟨some x, cp, l, rfl, hl, ⟨rfl, by unfold maxLen at hm; omega, fun _ => ⟨x, rfl, fun j p hj => ?_⟩⟩, by omega, fun p hp => ?_⟩
    · obtain ⟨_, hc0, hc1, hc2⟩ := hq j p hj
      refine ⟨[.int .i8 p.f0, .int .i16 p.f1, .int .i16 p.f2], rfl, k114_mk _ _, fun i u hu => ?_⟩
      match i, hu with
      | 0, hu => cases hu; exact hc0
      | 1, hu => cases hu; exact hc1
      | 2, hu => cases hu; exact hc2
      | n + 3, hu => simp at hu
    · obtain ⟨j, hj⟩ := List.mem_iff_getElem?.1 hp
      exact (hq j p hj).1
theorem open_t24 {H : Type} {enc : TypeId × Value → H} {W : World} {spare : Nat → Bool} {held : Bool} {base fuel : Nat} {c : Value} {y : DataW H × List MemPlace} (hsp : ∀ b, spare b = true) (h : DataW.trod enc Try.prog W base spare held fuel 24 [c] = some y) : ∃ (a : Option Addr) (cap : Nat) (l : List Int), c = .slice a l.length cap ∧ l.length ≤ cap ∧ Kd.C (Kd.int .i16) W a l.length l ∧ l.length ≤ maxLen ∧ (∀ x ∈ l, (Lit.int .i16 x).wf = true) := by
  rcases open_ints Try.underlying24 Try.underlying66 (by kernel_rfl) h with ⟨hcs, _⟩ | ⟨x, ln, cp, zs, hcs, _, hl, hm, hz, _, hcell, hwz⟩
  · obtain rfl : c = .slice none 0 0 := by simpa using hcs
    exact ⟨none, 0, [], rfl, Nat.le_refl _, Kd.C_nil _ _, by simp [maxLen], fun x hx => by cases hx⟩
  · obtain rfl : c = .slice (some x) ln cp := by simpa using hcs
    rw [if_pos (hsp _)] at hz
    obtain ⟨l, e1, hr, h2, h3, h4⟩ := ReadsInt.ofRowC (k := .i16) (w := W) (a := some x) (len := ln) (cap := cp) (zs := zs) (.inr ⟨x, rfl, hl, hm, hz, hcell, hwz⟩)
    subst e1
    exact ⟨some x, cp, l, rfl, h4, Kd.C_of_reads (d := (0 : Int)) (h1 := fun _ => rfl) hr, h2, h3⟩
set_option maxRecDepth 100000 in
theorem lifted (os : Os) (started : os.Started) (H : Type) (enc : TypeId × Value → H) :
    ReturnsInHanded {} Try.checked os 4 .any (Rows.fnExactMergeCircuitSpec.pre6 enc Try.prog Try.f4 Rows.fnExactMergeCircuitRow.domain false) (Rows.fnExactMergeCircuitSpec.post enc Try.prog Try.f4 false true false false) := by
  refine returnsInHanded_of_change_sized (C := Try.checked) own started (by kernel_rfl) Try.func4
    (ChangeSpec.witness6 (enc := enc) (C := Try.checked) false ⟨#[], #[.agg #[.int .i8 0, .slice none 0 0, .slice none 0 0]], []⟩ 8 (by kernel_rfl) (by kernel_rfl) (by kernel_rfl) (by kernel_rfl)) ?_
  intro W base args ds gs before hval0 hW hcnd hsz0 _
  have hsz : (DataW.weightsEach Try.prog (Try.f4.params.toList ++ Rows.fnExactMergeCircuitSpec.plain.varTypes Try.prog) (ds ++ gs)).all (· ≤ reachBytes) = true := hsz0
  have hval : ∀ (j : Nat) t v, Try.f4.params[j]? = some t → args[j]? = some v → Value.okWide Try.prog W .any base t v := hval0
  have hW' := hW
  obtain ⟨p, q, hA0, hV, rfl, hfz, hnd⟩ := hW
  have hA : DataW.TrodAll enc Try.prog W 0 (fun _ => true) true Try.f4.params.toList args.toList ds p := hA0
  rw [Try.params4] at hA hval hsz
  obtain ⟨v0, vs0, d0, ds0, p0, q0, hargs, rfl, rfl, h0, r0⟩ := trodAll_cons hA
  obtain ⟨rfl, rfl, rfl⟩ := trodAll_nil r0
  obtain rfl : args = #[v0] := by cases args; simp_all
  obtain ⟨rfl, rfl⟩ := trodVars_none hV
  have k0 := h0
  have lt0 : ∀ x ∈ p0, x.block < W.heap.size := by obtain ⟨m, hm⟩ := k0; exact DataW.trod_lt m _ _ _ hm
  obtain ⟨c0_0, c0_1, c0_2, y0_0, y0_1, y0_2, n0, rfl, _, _, g0_0, g0_1, g0_2⟩ := open_agg3 Try.underlying26 (by kernel_rfl) (by kernel_rfl) (hval 0 26 v0 rfl rfl) h0
  obtain ⟨a0_0, e0_0, _, w0_0⟩ := DataW.trod_int Try.underlying22 g0_0
  obtain rfl : c0_0 = .int .i8 a0_0 := by simpa using e0_0
  obtain ⟨A0_1, cp0_1, l0_1, e0_1, hc0_1, hr0_1, hm0_1, hw0_1⟩ := open_t23 (fun _ => rfl) g0_1
  obtain rfl := e0_1
  obtain ⟨A0_2, cp0_2, l0_2, e0_2, hc0_2, hr0_2, hm0_2, hw0_2⟩ := open_t24 (fun _ => rfl) g0_2
  obtain rfl := e0_2
  clear hA0 hval0 hsz0 hsz
  obtain ⟨k, h⟩ := Pure.FnExactMergeCircuit a0_0 l0_1 l0_2 w0_0 hm0_1 hw0_1 hm0_2 hw0_2
  refine (laws_FnExactMergeCircuit.calls k a0_0 _ _ l0_1 _ _ l0_2 true W hr0_1 hc0_1 hr0_2 hc0_2 h).mono fun e W' ⟨he, bel0⟩ => ?_
  have bel : Below W.heap.size W W' := bel0
  subst he
  exact ⟨_, rfl, _, _, _, [], _, [], hW', trodAll_mk1 (shut_bool Try.underlying4 _), (trodAll_cons_mk (Below.trod laidOut (by kernel_rfl) (of_decide_eq_true (by kernel_rfl)) k0 bel lt0) trodAll_mk0), rfl, bel.frame _, fun h => by cases h⟩
theorem over : Rows.fnExactMergeCircuitRow.holds Try.pinned (OpenSpec.ofChange Rows.fnExactMergeCircuitSpec) :=
  OpenClaim.holds_of_wide 4 Try.f4 rfl rfl rfl rfl rfl rfl rfl ⟨rfl, rfl, rfl, rfl, rfl⟩ rfl rfl rfl rfl rfl (by kernel_rfl) Try.func4 (by kernel_rfl)
    (of_decide_eq_true (by kernel_rfl)) (by unfold Func.isWrapper; first | (rw [if_pos (by decide +kernel)]; kernel_rfl) | (rw [if_neg (by decide +kernel)]; exact ⟨rfl, rfl⟩))
    (fun os started H enc _ => lifted os started H enc)
theorem proved : Rows.FnExactMergeCircuitSaid := over
end Go.Proofs.Yteanndgkjoinmaa.fnExactMergeCircuit
namespace Go.Proofs.Yteanndgkjoinmaa
theorem fnExactMergeCircuit_holds : Rows.FnExactMergeCircuitSaid := fnExactMergeCircuit.proved
end Go.Proofs.Yteanndgkjoinmaa
