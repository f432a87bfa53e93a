/- FlipGate of the program and of the reference return the same, for all arguments; nothing is asked of them. -/
import Derived.Test.YteanndgkjoinmaaYFlip5
import Derived.Test.YteanndgkjoinmaaRows
import Derived.Below
import Derived.WalkKit
import Derived.ProofKit
import Derived.OpenShut
import Derived.ShutString
import Derived.ChangeOld
import Derived.SizedLaws
import Derived.Carry
import Derived.Deep.Slices
import Derived.Deep.Fields
import Derived.ChangeSame
import Derived.Lib.SmallJoins
namespace Go.Proofs.Yteanndgkjoinmaa.X
open Go.RowKit Go.Proofs.YteanndgkjoinmaaW.PrintWords Go.Proofs.YteanndgkjoinmaaW.PrintLast
theorem w64_in {x : Int} (h : -9223372036854775808 ≤ x) (h2 : x ≤ 9223372036854775807) : wrap64 x = x := by unfold wrap64; omega
theorem ev_pos {α : Type} {c : Prop} [Decidable c] {g f : Nat → Option α} {r : α} (h : c) (e : Ev g r) : Ev (fun k => if c then g k else f k) r := Ev.congr (fun _ => if_pos h) e
theorem ev_neg {α : Type} {c : Prop} [Decidable c] {g f : Nat → Option α} {r : α} (h : ¬ c) (e : Ev f r) : Ev (fun k => if c then g k else f k) r := Ev.congr (fun _ => if_neg h) e
theorem ev_some {α β : Type} {g : Option α} {f : Nat → α → Option β} {a : α} {r : β} (h : g = some a) (e : Ev (fun n => f n a) r) : Ev (fun n => g.bind (f n)) r := Ev.bind (g := fun _ => g) ⟨0, fun _ _ => h⟩ e
theorem take_succ_set {α : Type} (xs : List α) (i : Nat) (v : α) (h : i < xs.length) : (xs.set i v).take (i + 1) = xs.take i ++ [v] := by
  rw [List.take_succ_eq_append_getElem (by simpa using h)]
  simp [List.take_set_of_le]
theorem take_succ_map {α β : Type} (f : α → β) (xs : List α) (i : Nat) (d : α) (h : i < xs.length) : (xs.map f).take (i + 1) = (xs.map f).take i ++ [f (xs.getD i d)] := by
  rw [List.take_succ_eq_append_getElem (by simpa using h)]
  simp [List.getD_eq_getElem?_getD, List.getElem?_eq_getElem h]
def cvG (x : S114) : S68 := ⟨x.f0, x.f1, x.f2⟩
theorem toGateS_l0 (xs : List S114) (hn : xs.length ≤ 1048576) : ∀ (d i : Nat) (ys : List S68), xs.length - i = d → i ≤ xs.length → ys.length = xs.length → ys.take i = (xs.map cvG).take i → Ev (fun k => laws_toGateS.l0 k xs ys (i : Int)) (xs.map cvG) := by
  intro d
  induction d with
  | zero =>
    intro i ys hd hi hl ht
    have e : i = xs.length := by omega
    subst e
    have : ys = xs.map cvG := by
      rw [List.take_of_length_le (by omega), List.take_of_length_le (by simp)] at ht
      exact ht
    subst this
    exact Ev.step (f := fun _ => some (xs.map cvG)) (fun k => by simp only [laws_toGateS.l0]; rw [if_neg (by omega)]) (Ev.now _)
  | succ d ih =>
    intro i ys hd hi hl ht
    have hlt : i < xs.length := by omega
    refine Ev.step (f := fun k => laws_toGateS.l0 k xs (ys.set i (cvG (xs.getD i z114))) ((i + 1 : Nat) : Int)) (fun k => ?_) (ih (i + 1) _ (by omega) (by omega) (by simp [hl]) ?_)
    · simp only [laws_toGateS.l0]
      rw [if_pos (by omega), if_pos (by omega)]
      simp only [laws_toGate.f, Option.bind_some]
      rw [if_pos (by omega), w64_in (by omega) (by omega)]
      simp [rd_T114, cvG]
    · rw [take_succ_set _ _ _ (by omega), take_succ_map _ _ _ z114 hlt, ht]
theorem toGateS_ev (xs : List S114) (hn : xs.length ≤ 1048576) : Ev (fun k => laws_toGateS.f k xs) (xs.map cvG) := by
  unfold laws_toGateS.f
  refine ev_pos (by omega) (ev_pos (by omega) ?_)
  have := toGateS_l0 xs hn xs.length 0 (List.replicate xs.length z68) (by omega) (by omega) (by simp) (by simp)
  simpa using this
theorem toInt16S_l0 (xs : List Int) (hn : xs.length ≤ 1048576) : ∀ (d i : Nat) (ys : List Int), xs.length - i = d → i ≤ xs.length → ys.length = xs.length → ys.take i = xs.take i → Ev (fun k => laws_toInt16S.l0 k xs ys (i : Int)) xs := by
  intro d
  induction d with
  | zero =>
    intro i ys hd hi hl ht
    have e : i = xs.length := by omega
    subst e
    have : ys = xs := by
      rw [List.take_of_length_le (by omega), List.take_of_length_le (by simp)] at ht
      exact ht
    subst this
    exact Ev.step (f := fun _ => some ys) (fun k => by simp only [laws_toInt16S.l0]; rw [if_neg (by omega)]) (Ev.now _)
  | succ d ih =>
    intro i ys hd hi hl ht
    have hlt : i < xs.length := by omega
    refine Ev.step (f := fun k => laws_toInt16S.l0 k xs (ys.set i (xs.getD i 0)) ((i + 1 : Nat) : Int)) (fun k => ?_) (ih (i + 1) _ (by omega) (by omega) (by simp [hl]) ?_)
    · simp only [laws_toInt16S.l0]
      rw [if_pos (by omega), if_pos (by omega), if_pos (by omega), w64_in (by omega) (by omega)]
      simp [rd]
    · rw [take_succ_set _ _ _ (by omega), ht, List.take_succ_eq_append_getElem hlt]
      simp [List.getD_eq_getElem?_getD, List.getElem?_eq_getElem hlt]
theorem toInt16S_ev (xs : List Int) (hn : xs.length ≤ 1048576) : Ev (fun k => laws_toInt16S.f k xs) xs := by
  unfold laws_toInt16S.f
  refine ev_pos (by omega) (ev_pos (by omega) ?_)
  have := toInt16S_l0 xs hn xs.length 0 (List.replicate xs.length 0) (by omega) (by omega) (by simp) (by simp)
  simpa using this
theorem toCircuit_ev (n : Int) (gs : List S114) (os : List Int) (hg : gs.length ≤ 1048576) (ho : os.length ≤ 1048576) : Ev (fun k => laws_toCircuit.f k n gs os) (n, gs.map cvG, os) := by
  unfold laws_toCircuit.f
  exact Ev.bind (toGateS_ev gs hg) (Ev.bind (toInt16S_ev os ho) (Ev.now _))
theorem eqGateS_l0 (xs : List S68) (hn : xs.length ≤ 1048576) : ∀ (d i : Nat), xs.length - i = d → i ≤ xs.length → Ev (fun k => laws_eqGateS.l0 k xs xs (i : Int)) true := by
  intro d
  induction d with
  | zero =>
    intro i hd hi
    exact Ev.step (f := fun _ => some true) (fun k => by simp only [laws_eqGateS.l0]; rw [if_neg (by omega)]) (Ev.now _)
  | succ d ih =>
    intro i hd hi
    refine Ev.step (f := fun k => laws_eqGateS.l0 k xs xs ((i + 1 : Nat) : Int)) (fun k => ?_) (ih (i + 1) (by omega) (by omega))
    simp only [laws_eqGateS.l0]
    rw [if_pos (by omega), if_pos (by omega), if_pos (by omega)]
    simp only [laws_eqGate.f, if_true, Option.bind_some]
    rw [w64_in (by omega) (by omega)]
    rfl
theorem eqGateS_ev (xs : List S68) (hn : xs.length ≤ 1048576) : Ev (fun k => laws_eqGateS.f k xs xs) true := by
  unfold laws_eqGateS.f
  exact ev_pos rfl (eqGateS_l0 xs hn _ 0 rfl (by omega))
theorem eqInt16S_l0 (xs : List Int) (hn : xs.length ≤ 1048576) : ∀ (d i : Nat), xs.length - i = d → i ≤ xs.length → Ev (fun k => laws_eqInt16S.l0 k xs xs (i : Int)) true := by
  intro d
  induction d with
  | zero =>
    intro i hd hi
    exact Ev.step (f := fun _ => some true) (fun k => by simp only [laws_eqInt16S.l0]; rw [if_neg (by omega)]) (Ev.now _)
  | succ d ih =>
    intro i hd hi
    refine Ev.step (f := fun k => laws_eqInt16S.l0 k xs xs ((i + 1 : Nat) : Int)) (fun k => ?_) (ih (i + 1) (by omega) (by omega))
    simp only [laws_eqInt16S.l0]
    rw [if_pos (by omega), if_pos (by omega), if_pos (by omega)]
    simp only [if_true]
    rw [w64_in (by omega) (by omega)]
    rfl
theorem eqInt16S_ev (xs : List Int) (hn : xs.length ≤ 1048576) : Ev (fun k => laws_eqInt16S.f k xs xs) true := by
  unfold laws_eqInt16S.f
  exact ev_pos rfl (eqInt16S_l0 xs hn _ 0 rfl (by omega))
theorem eqCircuit_ev (n : Int) (gs : List S68) (os : List Int) (hg : gs.length ≤ 1048576) (ho : os.length ≤ 1048576) : Ev (fun k => laws_eqCircuit.f k n gs os n gs os) true := by
  unfold laws_eqCircuit.f
  exact ev_pos rfl (Ev.bind (eqGateS_ev gs hg) (ev_pos rfl (Ev.bind (eqInt16S_ev os ho) (ev_pos rfl (Ev.now _)))))
def mkG (c : Int) (n : Nat) : List S68 := (List.range n).map fun (i : Nat) => ⟨IntKind.i8.wrap (c + 3 * (i : Int)), IntKind.i16.wrap (c + 3 * (i : Int) + 1), IntKind.i16.wrap (c + 3 * (i : Int) + 2)⟩
def mkI (c : Int) (n : Nat) : List Int := (List.range n).map fun (i : Nat) => IntKind.i16.wrap (c + (i : Int))
theorem mkG_length (c : Int) (n : Nat) : (mkG c n).length = n := by simp [mkG]
theorem mkI_length (c : Int) (n : Nat) : (mkI c n).length = n := by simp [mkI]
theorem mkG_succ (c : Int) (n : Nat) : mkG c (n + 1) = mkG c n ++ [⟨IntKind.i8.wrap (c + 3 * (n : Int)), IntKind.i16.wrap (c + 3 * (n : Int) + 1), IntKind.i16.wrap (c + 3 * (n : Int) + 2)⟩] := by simp [mkG, List.range_succ]
theorem mkI_succ (c : Int) (n : Nat) : mkI c (n + 1) = mkI c n ++ [IntKind.i16.wrap (c + (n : Int))] := by simp [mkI, List.range_succ]
theorem mkG_get (c : Int) (n i : Nat) (h : i < n) : rd_T68 (mkG c n) (i : Int) = ⟨IntKind.i8.wrap (c + 3 * (i : Int)), IntKind.i16.wrap (c + 3 * (i : Int) + 1), IntKind.i16.wrap (c + 3 * (i : Int) + 2)⟩ := by
  simp [rd_T68, mkG, List.getD_eq_getElem?_getD, h]
theorem mkI_get (c : Int) (n i : Nat) (h : i < n) : rd (mkI c n) (i : Int) = IntKind.i16.wrap (c + (i : Int)) := by
  simp [rd, mkI, List.getD_eq_getElem?_getD, h]
theorem set3 (xs : List S68) (i : Nat) (h : i < xs.length) (a b c : Int) :
    ((xs.set i ⟨a, (rd_T68 xs i).f1, (rd_T68 xs i).f2⟩).set i ⟨(rd_T68 (xs.set i ⟨a, (rd_T68 xs i).f1, (rd_T68 xs i).f2⟩) i).f0, b, (rd_T68 (xs.set i ⟨a, (rd_T68 xs i).f1, (rd_T68 xs i).f2⟩) i).f2⟩).set i
      ⟨(rd_T68 ((xs.set i ⟨a, (rd_T68 xs i).f1, (rd_T68 xs i).f2⟩).set i ⟨(rd_T68 (xs.set i ⟨a, (rd_T68 xs i).f1, (rd_T68 xs i).f2⟩) i).f0, b, (rd_T68 (xs.set i ⟨a, (rd_T68 xs i).f1, (rd_T68 xs i).f2⟩) i).f2⟩) i).f0, (rd_T68 ((xs.set i ⟨a, (rd_T68 xs i).f1, (rd_T68 xs i).f2⟩).set i ⟨(rd_T68 (xs.set i ⟨a, (rd_T68 xs i).f1, (rd_T68 xs i).f2⟩) i).f0, b, (rd_T68 (xs.set i ⟨a, (rd_T68 xs i).f1, (rd_T68 xs i).f2⟩) i).f2⟩) i).f1, c⟩ = xs.set i ⟨a, b, c⟩ := by
  simp [rd_T68, List.getD_eq_getElem?_getD, h]
theorem markGateS_l0 (c : Int) (hc : 0 ≤ c) (hc2 : c ≤ 10000000) : ∀ (d i : Nat) (xs : List S68), xs.length ≤ 1048576 → xs.length - i = d → i ≤ xs.length → xs.take i = mkG c i → Ev (fun k => laws_markGateS.l0 k xs (c + 3 * (i : Int)) (i : Int)) (c + 3 * (xs.length : Int), mkG c xs.length) := by
  intro d
  induction d with
  | zero =>
    intro i xs hn hd hi ht
    have e : i = xs.length := by omega
    subst e
    rw [List.take_of_length_le (by omega)] at ht
    refine Ev.step (f := fun _ => some (c + 3 * (xs.length : Int), xs)) (fun k => by simp only [laws_markGateS.l0]; rw [if_neg (by omega)]) ?_
    rw [← ht]
    exact Ev.now _
  | succ d ih =>
    intro i xs hn hd hi ht
    have hlt : i < xs.length := by omega
    have := ih (i + 1) (xs.set i ⟨IntKind.i8.wrap (c + 3 * (i : Int)), IntKind.i16.wrap (c + 3 * (i : Int) + 1), IntKind.i16.wrap (c + 3 * (i : Int) + 2)⟩) (by simpa using hn) (by simp; omega) (by simp; omega) (by rw [take_succ_set _ _ _ hlt, ht, mkG_succ])
    rw [List.length_set] at this
    refine Ev.step (fun k => ?_) this
    simp only [laws_markGateS.l0]
    rw [if_pos (by omega), if_pos (by omega)]
    simp only [Option.bind_some, Int.toNat_natCast]
    rw [set3 xs i hlt]
    rw [w64_in (x := c + 3 * (i : Int) + 1) (by omega) (by omega), w64_in (x := c + 3 * (i : Int) + 1 + 1) (by omega) (by omega), w64_in (x := c + 3 * (i : Int) + 1 + 1 + 1) (by omega) (by omega), w64_in (x := (i : Int) + 1) (by omega) (by omega)]
    rw [show c + 3 * (i : Int) + 1 + 1 = c + 3 * (i : Int) + 2 from by omega, show c + 3 * (i : Int) + 2 + 1 = c + 3 * ((i + 1 : Nat) : Int) from by omega]
    rfl
theorem markGateS_ev (xs : List S68) (c : Int) (hc : 0 ≤ c) (hc2 : c ≤ 10000000) (hn : xs.length ≤ 1048576) : Ev (fun k => laws_markGateS.f k xs c) (c + 3 * (xs.length : Int), mkG c xs.length) := by
  have := markGateS_l0 c hc hc2 xs.length 0 xs hn (by omega) (by omega) (by simp [mkG])
  simpa [laws_markGateS.f] using this
theorem markInt16S_l0 (c : Int) (hc : 0 ≤ c) (hc2 : c ≤ 10000000) : ∀ (d i : Nat) (xs : List Int), xs.length ≤ 1048576 → xs.length - i = d → i ≤ xs.length → xs.take i = mkI c i → Ev (fun k => laws_markInt16S.l0 k xs (c + (i : Int)) (i : Int)) (c + (xs.length : Int), mkI c xs.length) := by
  intro d
  induction d with
  | zero =>
    intro i xs hn hd hi ht
    have e : i = xs.length := by omega
    subst e
    rw [List.take_of_length_le (by omega)] at ht
    refine Ev.step (f := fun _ => some (c + (xs.length : Int), xs)) (fun k => by simp only [laws_markInt16S.l0]; rw [if_neg (by omega)]) ?_
    rw [← ht]
    exact Ev.now _
  | succ d ih =>
    intro i xs hn hd hi ht
    have hlt : i < xs.length := by omega
    have := ih (i + 1) (xs.set i (IntKind.i16.wrap (c + (i : Int)))) (by simpa using hn) (by simp; omega) (by simp; omega) (by rw [take_succ_set _ _ _ hlt, ht, mkI_succ])
    rw [List.length_set] at this
    refine Ev.step (fun k => ?_) this
    simp only [laws_markInt16S.l0]
    rw [if_pos (by omega), if_pos (by omega), w64_in (x := c + (i : Int) + 1) (by omega) (by omega), w64_in (x := (i : Int) + 1) (by omega) (by omega)]
    rw [show c + (i : Int) + 1 = c + ((i + 1 : Nat) : Int) from by omega]
    rfl
theorem markInt16S_ev (xs : List Int) (c : Int) (hc : 0 ≤ c) (hc2 : c ≤ 10000000) (hn : xs.length ≤ 1048576) : Ev (fun k => laws_markInt16S.f k xs c) (c + (xs.length : Int), mkI c xs.length) := by
  have := markInt16S_l0 c hc hc2 xs.length 0 xs hn (by omega) (by omega) (by simp [mkI])
  simpa [laws_markInt16S.f] using this
theorem markCircuit_ev (n : Int) (gs : List S68) (os : List Int) (c : Int) (hc : 0 ≤ c) (hc2 : c ≤ 1000) (hg : gs.length ≤ 1048576) (ho : os.length ≤ 1048576) :
    Ev (fun k => laws_markCircuit.f k n gs os c) (c + 3 * (gs.length : Int) + (os.length : Int), mkG c gs.length, mkI (c + 3 * (gs.length : Int)) os.length) := by
  unfold laws_markCircuit.f
  exact Ev.bind (markGateS_ev gs c hc (by omega) hg) (Ev.bind (markInt16S_ev os _ (by omega) (by omega) ho) (Ev.now _))
theorem heldGateS_l0 (c : Int) (hc : 0 ≤ c) (hc2 : c ≤ 10000000) (n : Nat) (hn : n ≤ 1048576) : ∀ (d i : Nat), n - i = d → i ≤ n → Ev (fun k => laws_heldGateS.l0 k (mkG c n) (c + 3 * (i : Int)) (i : Int)) (c + 3 * (n : Int)) := by
  intro d
  induction d with
  | zero =>
    intro i hd hi
    have e : i = n := by omega
    subst e
    exact Ev.step (f := fun _ => some (c + 3 * (i : Int))) (fun k => by simp only [laws_heldGateS.l0]; rw [mkG_length, if_neg (by omega)]) (Ev.now _)
  | succ d ih =>
    intro i hd hi
    refine Ev.step (fun k => ?_) (ih (i + 1) (by omega) (by omega))
    simp only [laws_heldGateS.l0]
    rw [mkG_length, if_pos (by omega), if_pos (by omega), mkG_get c n i (by omega), if_pos rfl]
    rw [w64_in (x := c + 3 * (i : Int) + 1) (by omega) (by omega), if_pos rfl, w64_in (x := c + 3 * (i : Int) + 1 + 1) (by omega) (by omega), if_pos (by rw [show c + 3 * (i : Int) + 1 + 1 = c + 3 * (i : Int) + 2 from by omega]), w64_in (x := c + 3 * (i : Int) + 1 + 1 + 1) (by omega) (by omega), w64_in (x := (i : Int) + 1) (by omega) (by omega)]
    rw [show c + 3 * (i : Int) + 1 + 1 + 1 = c + 3 * ((i + 1 : Nat) : Int) from by omega]
    rfl
theorem heldInt16S_l0 (c : Int) (hc : 0 ≤ c) (hc2 : c ≤ 10000000) (n : Nat) (hn : n ≤ 1048576) : ∀ (d i : Nat), n - i = d → i ≤ n → Ev (fun k => laws_heldInt16S.l0 k (mkI c n) (c + (i : Int)) (i : Int)) (c + (n : Int)) := by
  intro d
  induction d with
  | zero =>
    intro i hd hi
    have e : i = n := by omega
    subst e
    exact Ev.step (f := fun _ => some (c + (i : Int))) (fun k => by simp only [laws_heldInt16S.l0]; rw [mkI_length, if_neg (by omega)]) (Ev.now _)
  | succ d ih =>
    intro i hd hi
    refine Ev.step (fun k => ?_) (ih (i + 1) (by omega) (by omega))
    simp only [laws_heldInt16S.l0]
    rw [mkI_length, if_pos (by omega), if_pos (by omega), mkI_get c n i (by omega), if_pos rfl, w64_in (x := c + (i : Int) + 1) (by omega) (by omega), w64_in (x := (i : Int) + 1) (by omega) (by omega)]
    rw [show c + (i : Int) + 1 = c + ((i + 1 : Nat) : Int) from by omega]
    rfl
theorem heldCircuit_ev (n : Int) (a b : Nat) (c : Int) (hc : 0 ≤ c) (hc2 : c ≤ 1000) (ha : a ≤ 1048576) (hb : b ≤ 1048576) :
    Ev (fun k => laws_heldCircuit.f k n (mkG c a) (mkI (c + 3 * (a : Int)) b) c) (c + 3 * (a : Int) + (b : Int)) := by
  unfold laws_heldCircuit.f laws_heldGateS.f laws_heldInt16S.f
  have h1 := heldGateS_l0 c hc (by omega) a ha a 0 (by omega) (by omega)
  have h2 := heldInt16S_l0 (c + 3 * (a : Int)) (by omega) (by omega) b hb b 0 (by omega) (by omega)
  refine Ev.bind (a := c + 3 * (a : Int)) (by simpa using h1) (ev_neg (by omega) (Ev.bind (a := c + 3 * (a : Int) + (b : Int)) (by simpa using h2) (ev_neg (by omega) (Ev.now _))))
theorem szCircuit_eq (n : Int) (gs : List S114) (os : List Int) (hg : gs.length ≤ maxLen) (ho : os.length ≤ maxLen) : ∃ t, laws_szCircuit.f n gs os 1048576 = some t ∧ (¬ t < 0 → gs.length ≤ 1048576 ∧ os.length ≤ 1048576) := by
  unfold maxLen at hg ho
  simp only [laws_szCircuit.f, laws_szGateS.f, laws_szInt16S.f]
  rw [w64_in (by omega) (by omega)]
  by_cases h1 : (1048576 : Int) - (gs.length : Int) < 0
  · rw [if_pos h1]; exact ⟨-1, rfl, fun h => absurd (by decide) h⟩
  · rw [if_neg h1]
    simp only [Option.bind_some]
    rw [if_neg h1, w64_in (by omega) (by omega)]
    by_cases h2 : (1048576 : Int) - (gs.length : Int) - (os.length : Int) < 0
    · rw [if_pos h2]; exact ⟨-1, rfl, fun h => absurd (by decide) h⟩
    · rw [if_neg h2]
      simp only [Option.bind_some]
      rw [if_neg h2]
      exact ⟨_, rfl, fun _ => ⟨by omega, by omega⟩⟩
def gateOkB (n i k a b : Int) : Bool :=
  if k = 0 then decide (0 ≤ wrap64 a) && decide (wrap64 a ≤ wrap64 (n - 1)) && (wrap64 b == 0)
  else if k = 1 then (wrap64 a == 0) && (wrap64 b == 0)
  else if k = 2 ∨ k = 3 then decide (0 ≤ wrap64 a) && decide (wrap64 a ≤ wrap64 (i - 1)) && (decide (0 ≤ wrap64 b) && decide (wrap64 b ≤ wrap64 (i - 1)))
  else false
def gatesOkB (n : Int) : Int → List S68 → Bool
  | _, [] => true
  | i, g :: gs => gateOkB n i g.f0 g.f1 g.f2 && gatesOkB n (i + 1) gs
def outOkB (m o : Int) : Bool := decide (0 ≤ wrap64 o) && decide (wrap64 o ≤ wrap64 (m - 1))
def headOkB (n : Int) (gs : List S68) (os : List Int) : Bool := decide (0 ≤ wrap64 n) && decide (wrap64 n ≤ 16) && (decide (gs.length ≤ 600) && decide (os.length ≤ 16))
def okB (n : Int) (gs : List S68) (os : List Int) : Bool := headOkB n gs os && (gatesOkB (wrap64 n) 0 gs && os.all (outOkB gs.length))
theorem l00In_eq (a b c : Int) : spec_l00In.f a b c = some (decide (b ≤ a) && decide (a ≤ c)) := by
  unfold spec_l00In.f
  by_cases h : a ≥ b
  · rw [if_pos h]; simp [h]
  · rw [if_neg h]; simp [h]
theorem within_eq (a b c : Int) : impl_within.f a b c = some (decide (b ≤ a) && decide (a ≤ c)) := by
  unfold impl_within.f
  by_cases h : b ≤ a
  · rw [if_pos h]; simp [h]
  · rw [if_neg h]; simp [h]
theorem l07Gate_eq (n i a b c : Int) (k : Nat) : spec_l07Gate.f (k + 1) a b c n i = some (gateOkB n i a b c) := by
  have hj : ∀ t, spec_l07Gate.j0 (k + 1) i (wrap64 b) (wrap64 c) t = some (if t = true then decide (0 ≤ wrap64 b) && decide (wrap64 b ≤ wrap64 (i - 1)) && (decide (0 ≤ wrap64 c) && decide (wrap64 c ≤ wrap64 (i - 1))) else false) := by
    intro t
    simp only [spec_l07Gate.j0, l00In_eq, Option.bind_some]
    cases t with
    | false => simp
    | true => by_cases h1 : 0 ≤ wrap64 b <;> by_cases h2 : wrap64 b ≤ wrap64 (i - 1) <;> simp [h1, h2]
  unfold spec_l07Gate.f gateOkB
  simp only [l00In_eq, Option.bind_some, hj]
  by_cases h0 : a = 0
  · simp only [h0, if_true]
    by_cases h1 : 0 ≤ wrap64 b <;> by_cases h2 : wrap64 b ≤ wrap64 (n - 1) <;> simp [h1, h2]
  · by_cases h1 : a = 1
    · simp only [h1]
      by_cases h2 : wrap64 b = 0 <;> simp [h2]
    · by_cases h2 : a = 2
      · simp [h2]
      · by_cases h3 : a = 3
        · simp [h3]
        · simp [h0, h1, h2, h3]
theorem isGate_eq (n : Int) (gs : List S68) (os : List Int) (i a b c : Int) : impl_Circuit_isGate.f n gs os a b c i = some (gateOkB (wrap64 n) i a b c) := by
  unfold impl_Circuit_isGate.f gateOkB impl_Gate_isPair.f
  simp only [within_eq, Option.bind_some]
  by_cases h0 : a = 0
  · simp only [h0, if_true]
    by_cases h1 : 0 ≤ wrap64 b <;> by_cases h2 : wrap64 b ≤ wrap64 (wrap64 n - 1) <;> simp [h1, h2]
  · by_cases h1 : a = 1
    · simp only [h1]
      by_cases h2 : wrap64 b = 0 <;> simp [h2]
    · by_cases h2 : a = 2
      · simp only [h2]
        by_cases h3 : 0 ≤ wrap64 b <;> by_cases h4 : wrap64 b ≤ wrap64 (i - 1) <;> simp [h3, h4]
      · by_cases h3 : a = 3
        · simp only [h3]
          by_cases h5 : 0 ≤ wrap64 b <;> by_cases h4 : wrap64 b ≤ wrap64 (i - 1) <;> simp [h5, h4]
        · simp [h0, h1, h2, h3]
theorem gatesOkB_drop (n : Int) (gs : List S68) (i : Nat) (h : i < gs.length) : gatesOkB n i (gs.drop i) = (gateOkB n i (rd_T68 gs i).f0 (rd_T68 gs i).f1 (rd_T68 gs i).f2 && gatesOkB n ((i + 1 : Nat) : Int) (gs.drop (i + 1))) := by
  rw [List.drop_eq_getElem_cons h]
  simp [gatesOkB, rd_T68, List.getD_eq_getElem?_getD, List.getElem?_eq_getElem h]
theorem outsOkB_drop (m : Int) (os : List Int) (i : Nat) (h : i < os.length) : (os.drop i).all (outOkB m) = (outOkB m (rd os i) && (os.drop (i + 1)).all (outOkB m)) := by
  rw [List.drop_eq_getElem_cons h, List.all_cons]
  simp [rd, List.getD_eq_getElem?_getD, List.getElem?_eq_getElem h]
theorem l07Ok_l1 (m n : Int) (gs : List S68) (os : List Int) (ho : os.length ≤ 16) : ∀ (d i : Nat), os.length - i = d → i ≤ os.length → Ev (fun k => spec_l07Ok.l1 k m (i : Int) n gs os) ((os.drop i).all (outOkB m)) := by
  intro d
  induction d with
  | zero =>
    intro i hd hi
    have e : i = os.length := by omega
    subst e
    exact Ev.step (f := fun _ => some true) (fun k => by simp only [spec_l07Ok.l1]; rw [if_neg (by omega)]) (by simp only [List.drop_length, List.all_nil]; exact Ev.now _)
  | succ d ih =>
    intro i hd hi
    have hlt : i < os.length := by omega
    rw [outsOkB_drop m os i hlt]
    cases hb : outOkB m (rd os i) with
    | true =>
      refine Ev.step (fun k => ?_) (by simpa using ih (i + 1) (by omega) (by omega))
      simp only [spec_l07Ok.l1, l00In_eq, Option.bind_some]
      rw [if_pos (by omega), if_pos (by omega), if_pos (by simpa [outOkB] using hb), w64_in (by omega) (by omega)]
    | false =>
      refine Ev.step (f := fun _ => some false) (fun k => ?_) (Ev.now _)
      simp only [spec_l07Ok.l1, l00In_eq, Option.bind_some]
      rw [if_pos (by omega), if_pos (by omega), if_neg (by simpa [outOkB] using hb)]
theorem l07Ok_l0 (n : Int) (gs : List S68) (os : List Int) (hg : gs.length ≤ 600) (ho : os.length ≤ 16) : ∀ (d i : Nat), gs.length - i = d → i ≤ gs.length → Ev (fun k => spec_l07Ok.l0 k (gs.length : Int) (i : Int) n gs os) (gatesOkB (wrap64 n) i (gs.drop i) && os.all (outOkB gs.length)) := by
  intro d
  induction d with
  | zero =>
    intro i hd hi
    have e : i = gs.length := by omega
    subst e
    refine Ev.step (fun k => ?_) (by simpa [gatesOkB] using l07Ok_l1 (gs.length : Int) n gs os ho os.length 0 (by omega) (by omega))
    simp only [spec_l07Ok.l0]
    rw [if_neg (by omega)]
  | succ d ih =>
    intro i hd hi
    have hlt : i < gs.length := by omega
    rw [gatesOkB_drop _ gs i hlt]
    cases hb : gateOkB (wrap64 n) i (rd_T68 gs i).f0 (rd_T68 gs i).f1 (rd_T68 gs i).f2 with
    | true =>
      refine Ev.step (f := fun k => (spec_l07Gate.f k (rd_T68 gs i).f0 (rd_T68 gs i).f1 (rd_T68 gs i).f2 (wrap64 n) i).bind fun t => if t = true then spec_l07Ok.l0 k (gs.length : Int) ((i + 1 : Nat) : Int) n gs os else some false) (fun k => ?_) (Ev.bind (a := true) ⟨1, fun k hk => ?_⟩ (ev_pos rfl (by simpa using ih (i + 1) (by omega) (by omega))))
      · simp only [spec_l07Ok.l0]
        rw [if_pos (by omega), if_pos (by omega), if_pos (by omega), w64_in (x := (i : Int) + 1) (by omega) (by omega)]
        rfl
      · obtain ⟨j, rfl⟩ : ∃ j, k = j + 1 := ⟨k - 1, by omega⟩
        show spec_l07Gate.f (j + 1) _ _ _ _ _ = _
        rw [l07Gate_eq, hb]
    | false =>
      refine Ev.step (f := fun k => (spec_l07Gate.f k (rd_T68 gs i).f0 (rd_T68 gs i).f1 (rd_T68 gs i).f2 (wrap64 n) i).bind fun t => if t = true then spec_l07Ok.l0 k (gs.length : Int) ((i + 1 : Nat) : Int) n gs os else some false) (fun k => ?_) (Ev.bind (a := false) ⟨1, fun k hk => ?_⟩ (ev_neg (by simp) (Ev.now _)))
      · simp only [spec_l07Ok.l0]
        rw [if_pos (by omega), if_pos (by omega), if_pos (by omega), w64_in (x := (i : Int) + 1) (by omega) (by omega)]
        rfl
      · obtain ⟨j, rfl⟩ : ∃ j, k = j + 1 := ⟨k - 1, by omega⟩
        show spec_l07Gate.f (j + 1) _ _ _ _ _ = _
        rw [l07Gate_eq, hb]
theorem l07Ok_ev (n : Int) (gs : List S68) (os : List Int) : Ev (fun k => spec_l07Ok.f k n gs os) (okB n gs os) := by
  unfold spec_l07Ok.f okB headOkB
  refine ev_some (l00In_eq _ _ _) ?_
  by_cases h1 : 0 ≤ wrap64 n ∧ wrap64 n ≤ 16
  · simp only [h1.1, h1.2, decide_true, Bool.and_self, if_true, Bool.true_and]
    by_cases h2 : gs.length ≤ 600
    · refine ev_neg (by omega) ?_
      by_cases h3 : os.length ≤ 16
      · refine Ev.step (fun k => ?_) (by simpa [h2, h3] using l07Ok_l0 n gs os h2 h3 gs.length 0 (by omega) (by omega))
        simp only [spec_l07Ok.j0]
        rw [if_neg (by simp; omega)]
      · refine Ev.step (f := fun _ => some false) (fun k => ?_) (by simp [h2, h3]; exact Ev.now _)
        simp only [spec_l07Ok.j0]
        rw [if_pos (by simp; omega)]
    · refine ev_pos (by omega) (Ev.step (f := fun _ => some false) (fun k => ?_) (by simp [h2]; exact Ev.now _))
      simp [spec_l07Ok.j0]
  · have h2 : (decide (0 ≤ wrap64 n) && decide (wrap64 n ≤ 16)) = false := by
      simp only [Bool.and_eq_false_iff, decide_eq_false_iff_not]
      omega
    rw [h2]
    simp only [Bool.false_and, Bool.false_eq_true, if_false]
    refine Ev.step (f := fun _ => some false) (fun k => ?_) (Ev.now _)
    simp [spec_l07Ok.j0]
theorem anyO_total {α : Type} (p : α → Option Bool) (q : α → Bool) (h : ∀ x, p x = some (q x)) : ∀ l : List α, anyO p l = some (l.any q)
  | [] => rfl
  | x :: l => by
    simp only [anyO, h, Option.bind_some, List.any_cons]
    cases q x with
    | true => rfl
    | false => simpa using anyO_total p q h l
theorem not_any_not (m : Int) : ∀ os : List Int, (!os.any fun o => !outOkB m o) = os.all (outOkB m)
  | [] => rfl
  | o :: os => by
    rw [List.any_cons, List.all_cons, ← not_any_not m os]
    cases outOkB m o <;> simp
theorem valid_l0 (n : Int) (gs : List S68) (os : List Int) (hg : gs.length ≤ 600) : ∀ (d i : Nat), gs.length - i = d → i ≤ gs.length → Ev (fun k => impl_ValidCircuit.l0 k gs (gs.length : Int) (i : Int) n gs os) (gatesOkB (wrap64 n) i (gs.drop i) && os.all (outOkB gs.length)) := by
  intro d
  induction d with
  | zero =>
    intro i hd hi
    have e : i = gs.length := by omega
    subst e
    refine Ev.step (f := fun _ => some (os.all (outOkB gs.length))) (fun k => ?_) (by simp [gatesOkB]; exact Ev.now _)
    simp only [impl_ValidCircuit.l0, slices_ContainsFunc_int16_int16.f]
    rw [if_neg (by omega), anyO_total _ (fun o => !outOkB gs.length o) (fun o => by simp only [impl_ValidCircuit_1.f, within_eq, Option.bind_some, outOkB])]
    simp only [Option.bind_some, not_any_not]
  | succ d ih =>
    intro i hd hi
    have hlt : i < gs.length := by omega
    rw [gatesOkB_drop _ gs i hlt]
    cases hb : gateOkB (wrap64 n) i (rd_T68 gs i).f0 (rd_T68 gs i).f1 (rd_T68 gs i).f2 with
    | true =>
      refine Ev.step (fun k => ?_) (by simpa using ih (i + 1) (by omega) (by omega))
      simp only [impl_ValidCircuit.l0, isGate_eq, hb, Option.bind_some]
      rw [if_pos (by omega), if_pos (by omega), if_pos (by omega), if_pos trivial, w64_in (x := (i : Int) + 1) (by omega) (by omega)]
    | false =>
      refine Ev.step (f := fun _ => some false) (fun k => ?_) (Ev.now _)
      simp only [impl_ValidCircuit.l0, isGate_eq, hb, Option.bind_some]
      rw [if_pos (by omega), if_pos (by omega), if_pos (by omega), if_neg (by simp)]
theorem valid_ev (n : Int) (gs : List S68) (os : List Int) : Ev (fun k => impl_ValidCircuit.f k n gs os) (okB n gs os) := by
  unfold impl_ValidCircuit.f okB headOkB
  refine ev_some (within_eq _ _ _) ?_
  by_cases h1 : 0 ≤ wrap64 n ∧ wrap64 n ≤ 16
  · simp only [h1.1, h1.2, decide_true, Bool.and_self, if_true, Bool.true_and]
    by_cases h2 : gs.length ≤ 600
    · refine ev_neg (by omega) ?_
      by_cases h3 : os.length ≤ 16
      · refine Ev.step (fun k => ?_) (by simpa [h2, h3] using valid_l0 n gs os h2 gs.length 0 (by omega) (by omega))
        simp only [impl_ValidCircuit.j0]
        rw [if_neg (by simp; omega)]
      · refine Ev.step (f := fun _ => some false) (fun k => ?_) (by simp [h2, h3]; exact Ev.now _)
        simp only [impl_ValidCircuit.j0]
        rw [if_pos (by simp; omega)]
    · refine ev_pos (by omega) (Ev.step (f := fun _ => some false) (fun k => ?_) (by simp [h2]; exact Ev.now _))
      simp [impl_ValidCircuit.j0]
  · have h2 : (decide (0 ≤ wrap64 n) && decide (wrap64 n ≤ 16)) = false := by
      simp only [Bool.and_eq_false_iff, decide_eq_false_iff_not]
      omega
    rw [h2]
    simp only [Bool.false_and, Bool.false_eq_true, if_false]
    refine Ev.step (f := fun _ => some false) (fun k => ?_) (Ev.now _)
    simp [impl_ValidCircuit.j0]
theorem okB_len {n : Int} {gs : List S68} {os : List Int} (h : okB n gs os = true) : gs.length ≤ 600 ∧ os.length ≤ 16 := by
  unfold okB headOkB at h
  simp only [Bool.and_eq_true, decide_eq_true_eq] at h
  exact h.1.2
end Go.Proofs.Yteanndgkjoinmaa.X

namespace Go.Proofs.Yteanndgkjoinmaa.X
open Go.RowKit Go.Proofs.YteanndgkjoinmaaW.PrintWords Go.Proofs.YteanndgkjoinmaaW.PrintLast
def isPairB (g : S68) : Bool := g.f0 == 2 || g.f0 == 3
def flipR (n : Int) (gs : List S68) (os : List Int) (a : Int) : Int × List S68 × List Int × Int :=
  if okB n gs os = true then
    if 0 ≤ a ∧ a ≤ wrap64 ((gs.length : Int) - 1) then
      if isPairB (rd_T68 gs a) = true then (n, gs.set a.toNat ⟨IntKind.i8.wrap (5 - (rd_T68 gs a).f0), (rd_T68 gs a).f1, (rd_T68 gs a).f2⟩, os, 0) else (0, [], [], 4)
    else (0, [], [], 2)
  else (0, [], [], 1)
theorem joins_eq (a b c : Int) : spec_l07Joins.f a b c = some (isPairB ⟨a, b, c⟩) := by
  unfold spec_l07Joins.f isPairB
  by_cases h : a = 2 <;> simp [h]
theorem isPair_eq (a b c : Int) : impl_Gate_isPair.f a b c = some (isPairB ⟨a, b, c⟩) := by
  unfold impl_Gate_isPair.f isPairB
  by_cases h : a = 2 <;> simp [h]
theorem specFlip_ev (n : Int) (gs : List S68) (os : List Int) (a : Int) : Ev (fun k => spec_FlipGate.f k n gs os a) (flipR n gs os a) := by
  unfold spec_FlipGate.f flipR
  refine Ev.bind (l07Ok_ev n gs os) ?_
  cases hok : okB n gs os with
  | false => exact ev_neg (by simp) (by simp only [Bool.false_eq_true, if_false]; exact Ev.now _)
  | true =>
    obtain ⟨h1, h2⟩ := okB_len hok
    refine ev_pos rfl (ev_some (l00In_eq _ _ _) ?_)
    simp only [if_true]
    by_cases hr : 0 ≤ a ∧ a ≤ wrap64 ((gs.length : Int) - 1)
    · have hw : wrap64 ((gs.length : Int) - 1) = (gs.length : Int) - 1 := w64_in (by omega) (by omega)
      rw [if_pos hr]
      refine ev_pos (by simp [hr.1, hr.2]) (ev_pos hr.1 (ev_pos (by omega) (ev_some (joins_eq _ _ _) ?_)))
      cases hp : isPairB (rd_T68 gs a) with
      | false =>
        refine ev_neg (by simp) ?_
        simp only [Bool.false_eq_true, if_false]
        exact Ev.now _
      | true =>
        refine ev_pos rfl ?_
        simp only [if_true, Option.bind_some, List.nil_append, List.length_nil, Nat.zero_add]
        exact ev_pos (by omega) (ev_pos (by omega) (ev_pos (by omega) (Ev.now _)))
    · rw [if_neg hr]
      exact ev_neg (by simpa using hr) (Ev.now _)
theorem implFlip_ev (n : Int) (gs : List S68) (os : List Int) (a : Int) : Ev (fun k => impl_FlipGate.f k n gs os a) (flipR n gs os a) := by
  unfold impl_FlipGate.f flipR
  refine Ev.bind (valid_ev n gs os) ?_
  cases hok : okB n gs os with
  | false => exact ev_neg (by simp) (by simp only [Bool.false_eq_true, if_false]; exact Ev.now _)
  | true =>
    obtain ⟨h1, h2⟩ := okB_len hok
    refine ev_pos rfl (ev_some (within_eq _ _ _) ?_)
    simp only [if_true]
    by_cases hr : 0 ≤ a ∧ a ≤ wrap64 ((gs.length : Int) - 1)
    · have hw : wrap64 ((gs.length : Int) - 1) = (gs.length : Int) - 1 := w64_in (by omega) (by omega)
      rw [if_pos hr]
      refine ev_pos (by simp [hr.1, hr.2]) (ev_pos hr.1 (ev_pos (by omega) (ev_some (isPair_eq _ _ _) ?_)))
      cases hp : isPairB (rd_T68 gs a) with
      | false =>
        refine ev_neg (by simp) ?_
        simp only [Bool.false_eq_true, if_false]
        exact Ev.now _
      | true =>
        refine ev_pos rfl ?_
        have e1 : impl_Gate.f gs = some gs := by
          simp only [impl_Gate.f, Option.bind_some, List.nil_append, List.length_nil, Nat.zero_add]
          rw [if_pos (by omega)]
        have e2 : slices_Clone_int16_int16.f os = some os := by
          simp only [slices_Clone_int16_int16.f, Option.bind_some, List.nil_append, List.length_nil, Nat.zero_add]
          rw [if_pos (by omega)]
        simp only [if_true, e1, e2, Option.bind_some]
        exact ev_pos (by omega) (Ev.now _)
    · rw [if_neg hr]
      exact ev_neg (by simpa using hr) (Ev.now _)
theorem flipR_len (n : Int) (gs : List S68) (os : List Int) (a : Int) : (flipR n gs os a).2.1.length ≤ gs.length ∧ (flipR n gs os a).2.2.1.length ≤ os.length := by
  unfold flipR
  split
  · split
    · split <;> simp
    · simp
  · simp
end Go.Proofs.Yteanndgkjoinmaa.X
namespace Go.Proofs.Yteanndgkjoinmaa.Pure
open Go.RowKit Go.Proofs.Yteanndgkjoinmaa.X Go.Proofs.YteanndgkjoinmaaW.PrintWords Go.Proofs.YteanndgkjoinmaaW.PrintLast
theorem FnExactFlipGate : laws_FnExactFlipGate.Pure := by
  intro n l1 l2 a _ hm1 _ hm2 _ _
  refine Ev.rounds ?_
  unfold laws_FnExactFlipGate.f
  obtain ⟨t, ht, hlen⟩ := szCircuit_eq n l1 l2 hm1 hm2
  refine ev_some ht ?_
  by_cases h0 : t < 0
  · exact ev_pos h0 (Ev.now _)
  obtain ⟨hg, ho⟩ := hlen h0
  refine ev_neg h0 ?_
  have hto := toCircuit_ev n l1 l2 hg ho
  have hgl : (l1.map cvG).length ≤ 1048576 := by simpa using hg
  obtain ⟨hf1, hf2⟩ := flipR_len n (l1.map cvG) l2 a
  have hs := specFlip_ev n (l1.map cvG) l2 a
  have hi := implFlip_ev n (l1.map cvG) l2 a
  generalize flipR n (l1.map cvG) l2 a = R at hf1 hf2 hs hi
  refine Ev.bind hto (Ev.bind hs (Ev.bind hto (Ev.bind hi ?_)))
  obtain ⟨r1, r2, r3, r4⟩ := R
  dsimp only at hf1 hf2 ⊢
  have hr2 : r2.length ≤ 1048576 := by omega
  have hr3 : r3.length ≤ 1048576 := by omega
  refine Ev.bind (eqCircuit_ev r1 r2 r3 hr2 hr3) (ev_pos rfl ?_)
  refine Ev.step (fun k => by simp only [laws_FnExactFlipGate.j0, bne_self_eq_false, Bool.false_eq_true, if_false]; rfl) ?_
  refine Ev.bind hto (Ev.bind (eqCircuit_ev n (l1.map cvG) l2 hgl ho) (ev_pos rfl ?_))
  refine Ev.bind (markCircuit_ev n (l1.map cvG) l2 1 (by omega) (by omega) hgl ho) (ev_neg (by dsimp only; omega) ?_)
  refine Ev.bind (eqCircuit_ev r1 r2 r3 hr2 hr3) (ev_pos rfl ?_)
  refine Ev.step (fun k => by simp only [laws_FnExactFlipGate.j1, Bool.false_eq_true, if_false]; rfl) ?_
  refine Ev.bind (markCircuit_ev r1 r2 r3 1 (by omega) (by omega) hr2 hr3) ?_
  dsimp only
  have hh := heldCircuit_ev r1 r2.length r3.length 1 (by omega) (by omega) hr2 hr3
  refine Ev.bind hh (ev_neg (by omega) (ev_pos rfl ?_))
  refine Ev.bind hto (Ev.bind hi (Ev.bind (eqCircuit_ev r1 r2 r3 hr2 hr3) (ev_pos rfl ?_)))
  refine Ev.step (fun k => by simp only [laws_FnExactFlipGate.j2, bne_self_eq_false, Bool.false_eq_true, if_false]; rfl) ?_
  exact Ev.bind hh (ev_neg (by omega) (ev_pos rfl (Ev.now _)))
end Go.Proofs.Yteanndgkjoinmaa.Pure

-- Laid by wip/xprint.py of this session (the kit's print program, with some contracts given by hand). Not trusted: Lean checks it.
namespace Go.Proofs.Yteanndgkjoinmaa.fnExactFlipGate
open Go.ChangeShapes Go.WideShapes Go.ChangeAt Go.RowKit Go.Joins Go.Deep
open Go.ChangeMaps (open_string shut_string)
open Go.Proofs.YteanndgkjoinmaaW.PrintWords Go.Proofs.YteanndgkjoinmaaW.PrintLast Go.Proofs.Yteanndgkjoinmaa.X
set_option linter.unusedVariables false
theorem own : ownKnob Try.prog.godebug = none := by kernel_rfl
theorem laidOut : laidOutB Try.prog = true := by kernel_rfl
theorem open_slice_fields {H : Type} {enc : TypeId × Value → H} {P : Program} {w : World} {base : Nat} {spare : Nat → Bool} {held : Bool} {t e : TypeId} {fs : Array Field} {fuel : Nat} {cs : List Value} {x : DataW H × List MemPlace} (ht : P.underlying t = some (.slice e)) (he : P.underlying e = some (.struct fs))
    (hone : oneCellFields P fs = true) (hC : P.cellsOf e = fs.size) (h : DataW.trod enc P w base spare held fuel t cs = some x) :
    (cs = [.slice none 0 0]) ∨
    ∃ (a : Addr) (len cap m : Nat), cs = [.slice (some a) len cap] ∧ len ≤ cap ∧ cap ≤ maxLen ∧ m = (if spare a.block then cap else len) ∧
      ∀ i, i < m → ∃ (n : Nat), ∀ (j : Nat) (f : Field), fs[j]? = some f → ∃ (v : Value) (y : DataW H × List MemPlace), w.cell? (a.add (i * fs.size + j)) = some v ∧ DataW.trod enc P w base spare held n f.type [v] = some y := by
  rcases open_slice ht h with h0 | ⟨a, len, cap, m, n, D, Pl, hcs, hb, hl, hm, hmm, hx, hi⟩
  · exact .inl h0.1
  · refine .inr ⟨a, len, cap, m, hcs, hl, hm, hmm, fun i him => ?_⟩
    obtain ⟨cs', hc, ht'⟩ := hi i him
    rw [hC] at hc
    obtain ⟨ys, n', hn', hy, hlen, hyl, hf⟩ := DataW.trod_struct he ht'
    obtain ⟨_, hcl, hat⟩ := World.cells?_some hc
    refine ⟨n', fun j f hj => ?_⟩
    obtain ⟨ho, hk⟩ := hone_of hone j f hj
    have hjl : j < fs.size := (Array.getElem?_eq_some_iff.1 hj).1
    have hcell := hat j hjl
    have hv : cs'[j]? = some (cs'[j]'(by omega)) := List.getElem?_eq_getElem (by omega)
    have h1 := hf j f hj
    rw [ho, hk] at h1
    have hone' : (cs'.drop j).take 1 = [cs'[j]'(by omega)] := by
      rw [List.drop_eq_getElem_cons (by omega)]
      rfl
    rw [hone'] at h1
    have hys : ys[j]? = some (ys[j]'(by omega)) := List.getElem?_eq_getElem (by omega)
    refine ⟨_, _, ?_, h1.trans hys⟩
    rw [← Go.Deep.add_add, hcell, hv]
theorem list_of {α : Type} (Q : Nat → α → Prop) : ∀ n : Nat, (∀ i, i < n → ∃ x, Q i x) → ∃ l : List α, l.length = n ∧ ∀ i x, l[i]? = some x → Q i x
  | 0, _ => ⟨[], rfl, fun i x h => by simp at h⟩
  | n + 1, h => by
    obtain ⟨l, hl, hq⟩ := list_of Q n (fun i hi => h i (by omega))
    obtain ⟨x, hx⟩ := h n (by omega)
    refine ⟨l ++ [x], by simp [hl], fun i y hy => ?_⟩
    rcases Nat.lt_or_ge i l.length with hi | hi
    · rw [List.getElem?_append_left hi] at hy
      exact hq i y hy
    · rw [List.getElem?_append_right hi] at hy
      have : i = l.length := by
        have := (List.getElem?_eq_some_iff.1 hy).1
        simp at this
        omega
      subst this
      simp at hy
      subst hy
      rw [hl]
      exact hx
theorem open_t23 {H : Type} {enc : TypeId × Value → H} {W : World} {spare : Nat → Bool} {held : Bool} {base fuel : Nat} {c : Value} {y : DataW H × List MemPlace} (hsp : ∀ b, spare b = true) (h : DataW.trod enc Try.prog W base spare held fuel 23 [c] = some y) : ∃ (a : Option Addr) (cap : Nat) (l : List (S114)), c = .slice a l.length cap ∧ l.length ≤ cap ∧ Kd.C k114 W a l.length l ∧ l.length ≤ maxLen ∧ (∀ x ∈ l, (Lit.int .i8 x.f0).wf = true ∧ (Lit.int .i16 x.f1).wf = true ∧ (Lit.int .i16 x.f2).wf = true) := by
  rcases open_slice_fields Try.underlying23 Try.underlying114 (by kernel_rfl) (by kernel_rfl) h with hcs | ⟨x, ln, cp, m, hcs, hl, hm, hmm, hi⟩
  · obtain rfl : c = .slice none 0 0 := by simpa using hcs
    exact ⟨none, 0, [], rfl, Nat.le_refl _, Kd.C_nil _ _, by simp [maxLen], fun x hx => by cases hx⟩
  · obtain rfl : c = .slice (some x) ln cp := by simpa using hcs
    rw [if_pos (hsp _)] at hmm
    have hx : ∀ i, i < ln → ∃ s : S114, ((Lit.int .i8 s.f0).wf = true ∧ (Lit.int .i16 s.f1).wf = true ∧ (Lit.int .i16 s.f2).wf = true) ∧ W.cell? (x.add (i * 3 + 0)) = some (.int .i8 s.f0) ∧ W.cell? (x.add (i * 3 + 1)) = some (.int .i16 s.f1) ∧ W.cell? (x.add (i * 3 + 2)) = some (.int .i16 s.f2) := by
      intro i hi'
      obtain ⟨n, hf⟩ := hi i (by omega)
      obtain ⟨v0, y0, hc0, ht0⟩ := hf 0 _ rfl
      obtain ⟨z0, e0, _, w0⟩ := DataW.trod_int Try.underlying22 ht0
      obtain rfl : v0 = .int .i8 z0 := by simpa using e0
      obtain ⟨v1, y1, hc1, ht1⟩ := hf 1 _ rfl
      obtain ⟨z1, e1, _, w1⟩ := DataW.trod_int Try.underlying66 ht1
      obtain rfl : v1 = .int .i16 z1 := by simpa using e1
      obtain ⟨v2, y2, hc2, ht2⟩ := hf 2 _ rfl
      obtain ⟨z2, e2, _, w2⟩ := DataW.trod_int Try.underlying66 ht2
      obtain rfl : v2 = .int .i16 z2 := by simpa using e2
      exact ⟨⟨z0, z1, z2⟩, ⟨w0, w1, w2⟩, hc0, hc1, hc2⟩
    obtain ⟨l, hll, hq⟩ := list_of _ ln hx
    subst hll
    refine ⟨some x, cp, l, rfl, hl, ⟨rfl, by unfold maxLen at hm; omega, fun _ => ⟨x, rfl, fun j p hj => ?_⟩⟩, by omega, fun p hp => ?_⟩
    · obtain ⟨_, hc0, hc1, hc2⟩ := hq j p hj
      refine ⟨[.int .i8 p.f0, .int .i16 p.f1, .int .i16 p.f2], rfl, k114_mk _ _, fun i u hu => ?_⟩
      match i, hu with
      | 0, hu => cases hu; exact hc0
      | 1, hu => cases hu; exact hc1
      | 2, hu => cases hu; exact hc2
      | n + 3, hu => simp at hu
    · obtain ⟨j, hj⟩ := List.mem_iff_getElem?.1 hp
      exact (hq j p hj).1
theorem open_t24 {H : Type} {enc : TypeId × Value → H} {W : World} {spare : Nat → Bool} {held : Bool} {base fuel : Nat} {c : Value} {y : DataW H × List MemPlace} (hsp : ∀ b, spare b = true) (h : DataW.trod enc Try.prog W base spare held fuel 24 [c] = some y) : ∃ (a : Option Addr) (cap : Nat) (l : List Int), c = .slice a l.length cap ∧ l.length ≤ cap ∧ Kd.C (Kd.int .i16) W a l.length l ∧ l.length ≤ maxLen ∧ (∀ x ∈ l, (Lit.int .i16 x).wf = true) := by
  rcases open_ints Try.underlying24 Try.underlying66 (by kernel_rfl) h with ⟨hcs, _⟩ | ⟨x, ln, cp, zs, hcs, _, hl, hm, hz, _, hcell, hwz⟩
  · obtain rfl : c = .slice none 0 0 := by simpa using hcs
    exact ⟨none, 0, [], rfl, Nat.le_refl _, Kd.C_nil _ _, by simp [maxLen], fun x hx => by cases hx⟩
  · obtain rfl : c = .slice (some x) ln cp := by simpa using hcs
    rw [if_pos (hsp _)] at hz
    obtain ⟨l, e1, hr, h2, h3, h4⟩ := ReadsInt.ofRowC (k := .i16) (w := W) (a := some x) (len := ln) (cap := cp) (zs := zs) (.inr ⟨x, rfl, hl, hm, hz, hcell, hwz⟩)
    subst e1
    exact ⟨some x, cp, l, rfl, h4, Kd.C_of_reads (d := (0 : Int)) (h1 := fun _ => rfl) hr, h2, h3⟩
set_option maxRecDepth 100000 in
theorem lifted (os : Os) (started : os.Started) (H : Type) (enc : TypeId × Value → H) :
    ReturnsInHanded {} Try.checked os 3 .any (Rows.fnExactFlipGateSpec.pre6 enc Try.prog Try.f3 Rows.fnExactFlipGateRow.domain false) (Rows.fnExactFlipGateSpec.post enc Try.prog Try.f3 false true false false) := by
  refine returnsInHanded_of_change_sized (C := Try.checked) own started (by kernel_rfl) Try.func3
    (ChangeSpec.witness6 (enc := enc) (C := Try.checked) false ⟨#[], #[.agg #[.int .i8 0, .slice none 0 0, .slice none 0 0], .int .i64 0], []⟩ 8 (by kernel_rfl) (by kernel_rfl) (by kernel_rfl) (by kernel_rfl)) ?_
  intro W base args ds gs before hval0 hW hcnd hsz0 _
  have hsz : (DataW.weightsEach Try.prog (Try.f3.params.toList ++ Rows.fnExactFlipGateSpec.plain.varTypes Try.prog) (ds ++ gs)).all (· ≤ reachBytes) = true := hsz0
  have hval : ∀ (j : Nat) t v, Try.f3.params[j]? = some t → args[j]? = some v → Value.okWide Try.prog W .any base t v := hval0
  have hW' := hW
  obtain ⟨p, q, hA0, hV, rfl, hfz, hnd⟩ := hW
  have hA : DataW.TrodAll enc Try.prog W 0 (fun _ => true) true Try.f3.params.toList args.toList ds p := hA0
  rw [Try.params3] at hA hval hsz
  obtain ⟨v0, vs0, d0, ds0, p0, q0, hargs, rfl, rfl, h0, r0⟩ := trodAll_cons hA
  obtain ⟨v1, vs1, d1, ds1, p1, q1, rfl, rfl, rfl, h1, r1⟩ := trodAll_cons r0
  obtain ⟨rfl, rfl, rfl⟩ := trodAll_nil r1
  obtain rfl : args = #[v0, v1] := by cases args; simp_all
  obtain ⟨rfl, rfl⟩ := trodVars_none hV
  have k0 := h0
  have lt0 : ∀ x ∈ p0, x.block < W.heap.size := by obtain ⟨m, hm⟩ := k0; exact DataW.trod_lt m _ _ _ hm
  obtain ⟨c0_0, c0_1, c0_2, y0_0, y0_1, y0_2, n0, rfl, _, _, g0_0, g0_1, g0_2⟩ := open_agg3 Try.underlying26 (by kernel_rfl) (by kernel_rfl) (hval 0 26 v0 rfl rfl) h0
  obtain ⟨a0_0, e0_0, _, w0_0⟩ := DataW.trod_int Try.underlying22 g0_0
  obtain rfl : c0_0 = .int .i8 a0_0 := by simpa using e0_0
  obtain ⟨A0_1, cp0_1, l0_1, e0_1, hc0_1, hr0_1, hm0_1, hw0_1⟩ := open_t23 (fun _ => rfl) g0_1
  obtain rfl := e0_1
  obtain ⟨A0_2, cp0_2, l0_2, e0_2, hc0_2, hr0_2, hm0_2, hw0_2⟩ := open_t24 (fun _ => rfl) g0_2
  obtain rfl := e0_2
  obtain ⟨a1, rfl, rfl, rfl, w1⟩ := open_int Try.underlying2 (hval 1 2 v1 rfl rfl) h1
  clear hA0 hval0 hsz0 hsz
  obtain ⟨k, h⟩ := Pure.FnExactFlipGate a0_0 l0_1 l0_2 a1 w0_0 hm0_1 hw0_1 hm0_2 hw0_2 w1
  refine (laws_FnExactFlipGate.calls k a0_0 _ _ l0_1 _ _ l0_2 a1 true W hr0_1 hc0_1 hr0_2 hc0_2 h).mono fun e W' ⟨he, bel0⟩ => ?_
  have bel : Below W.heap.size W W' := bel0
  subst he
  exact ⟨_, rfl, _, _, _, [], _, [], hW', trodAll_mk1 (shut_bool Try.underlying4 _), (trodAll_cons_mk (Below.trod laidOut (by kernel_rfl) (of_decide_eq_true (by kernel_rfl)) k0 bel lt0) (trodAll_cons_mk (shut_int Try.underlying2 w1) trodAll_mk0)), rfl, bel.frame _, fun h => by cases h⟩
theorem over : Rows.fnExactFlipGateRow.holds Try.pinned (OpenSpec.ofChange Rows.fnExactFlipGateSpec) :=
  OpenClaim.holds_of_wide 3 Try.f3 rfl rfl rfl rfl rfl rfl rfl ⟨rfl, rfl, rfl, rfl, rfl⟩ rfl rfl rfl rfl rfl (by kernel_rfl) Try.func3 (by kernel_rfl)
    (of_decide_eq_true (by kernel_rfl)) (by unfold Func.isWrapper; first | (rw [if_pos (by decide +kernel)]; kernel_rfl) | (rw [if_neg (by decide +kernel)]; exact ⟨rfl, rfl⟩))
    (fun os started H enc _ => lifted os started H enc)
theorem proved : Rows.FnExactFlipGateSaid := over
end Go.Proofs.Yteanndgkjoinmaa.fnExactFlipGate
namespace Go.Proofs.Yteanndgkjoinmaa
theorem fnExactFlipGate_holds : Rows.FnExactFlipGateSaid := fnExactFlipGate.proved
end Go.Proofs.Yteanndgkjoinmaa
