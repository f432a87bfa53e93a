/- Texts of this claim, joined: what the claim's last text comes to. They hold without any condition beyond those that each states. -/
import Derived.Test.YtadfobooofkelaaYEqn1
import Derived.Test.YtadfobooofkelaaProg
import Derived.Below
import Derived.Deep.Draws
import Derived.Deep.AppendLies
import Derived.Maps.AppendAt
import Derived.OwnWalk
import Derived.Laws.BytesArg
import Derived.Laws.MakeOwn
import Derived.Laws.OwnMore
import Derived.Deep.OwnRows
import Derived.Tactics
import Derived.Lib.ConvBytes
import Derived.Laws.Slices
import Derived.WalkKit
import Derived.KernelRfl
import Derived.RowKit3
import Derived.Deep.LoopGhost
import Derived.Deep.QuietTactic
import Derived.BigQuiet
import Derived.WideLaws
import Derived.Deep.DeepCutAuto
import Derived.Deep.CutBlock
import Derived.Deep.RegionHeld3
import Derived.Laws.Rows
import Derived.Lib.AppendStr
import Derived.ArgAppend
import Derived.Laws.IdiomCopy
import Derived.OrdersHeld
import Derived.Laws.BitsLemmas
import Derived.RowKit
import Derived.WalkSpells
import Derived.Shelf.SlSortCmp.WholeK
import Derived.Ground.SlsfProg
import Derived.Shelf.SlGeneric
-- Laid by wip/xprint.py of this session (the kit's print program, with some contracts given by hand). Not trusted: Lean checks it.
namespace Go.Proofs.Ytadfobooofkelaa.X
open Go.RowKit Go.Proofs.YtadfobooofkelaaW.PrintWords Go.Proofs.YtadfobooofkelaaW.PrintLast Go.Proofs.YtadfobooofkelaaW.PrintMore
attribute [local go_sem] max2_int min2_int max_two min_two max_three min_three max_four min_four
set_option linter.unusedVariables false
set_option linter.unusedSimpArgs false
def errW : Option Int → Value
  | none => .nilIface
  | some c => .iface 0 (.int .i64 c)
theorem errW_none : errW none = .nilIface := rfl
theorem errW_some (c : Int) : errW (some c) = .iface 0 (.int .i64 c) := rfl
theorem info36 : (Try.prog.info? 36).map (fun i => (i.zero, i.size, i.bytes)) = some (some (.int .u16 0), 1, 2) := by kernel_rfl
theorem info175 : (Try.prog.info? 175).map (fun i => (i.zero, i.size, i.bytes)) = some (some (.agg #[(.int .u16 0), (.int .u16 0)]), 2, 4) := by kernel_rfl
-- the values' own types
structure S175 where
  f0 : Int
  f1 : Int
def z175 : S175 := ⟨(0 : Int), (0 : Int)⟩
def k175 : Kd S175 := Kd.iso (Kd.pair (Kd.int .u16) (Kd.int .u16)) (fun x : S175 => (x.f0, x.f1))
theorem k175_open {w : World} {x : S175} {cs : List Value} (h : k175.K w x cs) : cs = [.int .u16 x.f0, .int .u16 x.f1] := by
  obtain ⟨_, _, rfl, rfl, rfl⟩ := h
  exact rfl
theorem k175_openM {w : World} {base : Nat} {ok : Nat → Prop} {x : S175} {cs : List Value} (h : k175.M w base ok x cs) : cs = [.int .u16 x.f0, .int .u16 x.f1] := by
  obtain ⟨_, _, rfl, rfl, rfl⟩ := h
  exact rfl
theorem k175_mkM (w : World) (base : Nat) (ok : Nat → Prop) (x : S175)  : k175.M w base ok x [.int .u16 x.f0, .int .u16 x.f1] := ⟨[.int .u16 x.f0], [.int .u16 x.f1], rfl, rfl, rfl⟩
def rd_T175 (xs : List S175) (i : Int) : S175 := xs.getD i.toNat z175
theorem at_T175 {w : World} {A : Option Addr} {n : Nat} {xs : List S175} (h : Kd.C k175 w A n xs) (i : Int) (h0 : 0 ≤ i) (h1 : i < n) : ∃ ad , A = some ad ∧ w.cell? (ad.add (i.toNat * 2)) = some (.int .u16 (rd_T175 xs i).f0) ∧ w.cell? ⟨(ad.add (i.toNat * 2)).block, (ad.add (i.toNat * 2)).off + 1, none⟩ = some (.int .u16 (rd_T175 xs i).f1) := by
  obtain ⟨ad, c, e, _, hK, hc0⟩ := Kd.C_get h z175 i h0 h1
  have hc : ∀ j u, c[j]? = some u → w.cell? (ad.add (i.toNat * 2 + j)) = some u := hc0
  obtain rfl := k175_open hK
  exact ⟨ad, e, hc 0 _ rfl, by rw [← add_field _ _ 1 (by omega)]; exact hc 1 _ rfl⟩
def anyO {α : Type} (p : α → Option Bool) : List α → Option Bool
  | [] => some false
  | x :: l => (p x).bind fun b => if b = true then some true else anyO p l
def idxO {α : Type} (p : α → Option Bool) : Nat → List α → Option Int
  | _, [] => some (-1)
  | i, x :: l => (p x).bind fun b => if b = true then some (i : Int) else idxO p (i + 1) l
end Go.Proofs.Ytadfobooofkelaa.X

-- Laid by wip/xprint.py of this session (the kit's print program, with some contracts given by hand). Not trusted: Lean checks it.
namespace Go.Proofs.Ytadfobooofkelaa.X
open Go.RowKit Go.Proofs.YtadfobooofkelaaW.PrintWords Go.Proofs.YtadfobooofkelaaW.PrintLast Go.Proofs.YtadfobooofkelaaW.PrintMore
attribute [local go_sem] max2_int min2_int max_two min_two max_three min_three max_four min_four
set_option linter.unusedVariables false
set_option linter.unusedSimpArgs false
def spec_l01Times.f (a0 a1 : Int) : Option Int := if 0 ≤ a0 ∧ a0 < 65536 ∧ 0 ≤ a1 ∧ a1 < 65536 then some (Nim.nmI 4 a0 a1) else none
theorem spec_l01Times.small (k : Nat) (x y : Int) (w : World) (hx0 : 0 ≤ x) (hy0 : 0 ≤ y) (hx : x < 65536) (hy : y < 65536) (h : x < 2 ∨ y < 2) :
    Calls Try.prog 83 #[.int .u16 x, .int .u16 y] w fun e w' => e = .returned (.int .u16 (Nim.nmI k x y)) ∧ w' = w := by
  have hf := Nim.nmI_small k x y hx0 hy0 h
  have hm : IntKind.u16.wrap (x * y) = Nim.nmI k x y := by
    rw [hf, Nim.wrap_u16]
    rcases h with h | h
    · rcases (show x = 0 ∨ x = 1 by omega) with rfl | rfl <;> omega
    · rcases (show y = 0 ∨ y = 1 by omega) with rfl | rfl <;> omega
  have HM := Aside0.mk hm
  clear hf hm
  by_cases hx2 : x < 2
  · clear h
    go_enter Try.func83, Try.ntmps83
    go_wp2
    go_ret
    exact ⟨by rw [← HM.out]; rfl, rfl⟩
  · have hy2 : y < 2 := by omega
    clear h
    go_enter Try.func83, Try.ntmps83
    go_wp2
    go_ret
    exact ⟨by rw [← HM.out]; rfl, rfl⟩
set_option maxHeartbeats 2000000 in
set_option maxRecDepth 100000 in
theorem spec_l01Times.step0 (x y : Int) (w : World) (hx0 : 2 ≤ x) (hy0 : 2 ≤ y) (hx : x < 4) (hy : y < 4) (hbig : 2 ≤ x ∨ 2 ≤ y)
    (ih : ∀ (x y : Int) (w : World), 0 ≤ x → x < 2 → 0 ≤ y → y < 2 → Calls Try.prog 83 #[.int .u16 x, .int .u16 y] w fun e w' => e = .returned (.int .u16 (Nim.nmI 0 x y)) ∧ w' = w) :
    Calls Try.prog 83 #[.int .u16 x, .int .u16 y] w fun e w' => e = .returned (.int .u16 (Nim.nmI 1 x y)) ∧ w' = w := by
  have IH := Aside0.mk ih
  clear ih
  have HF := Aside0.mk (Nim.nmI_step 0 2 (by decide) (by decide) x y (by omega) (by omega) (by omega) (by omega))
  have f0 : decide (x < 2) = false := by simp; omega
  have f1 : decide (y < 2) = false := by simp; omega
  go_enter Try.func83, Try.ntmps83
  go_wp2_with (fail)
  go_loop [5] (fun v => v = .int .u64 1) (fun v => 9 - (intOf v).toNat)
  case atStart => exact rfl
  case round =>
    obtain rfl := hrel
    have h1 : x / 4 = 0 := by omega
    have h2 : (y / 4 != 0) = false := by rw [bne_eq_false_iff_eq]; omega
    have b1 : 0 ≤ x / 2 ∧ x / 2 < 2 := by omega
    have b2 : 0 ≤ y / 2 ∧ y / 2 < 2 := by omega
    have b3 : 0 ≤ x % 2 ∧ x % 2 < 2 := by omega
    have b4 : 0 ≤ y % 2 ∧ y % 2 < 2 := by omega
    have p0 := Nim.nmI_lt 0 2 (by decide) (x / 2) (y / 2) (by omega) (by omega) (by omega) (by omega)
    go_wp2_with fail
    refine (IH.out _ _ _ (by omega) (by omega) (by omega) (by omega)).mono ?_
    rintro e w' ⟨rfl, rfl⟩
    go_wp2_with fail
    refine (IH.out _ _ _ (by omega) (by omega) (by omega) (by omega)).mono ?_
    rintro e w' ⟨rfl, rfl⟩
    go_wp2_with fail
    refine (IH.out _ _ _ (by omega) (by omega) (by omega) (by omega)).mono ?_
    rintro e w' ⟨rfl, rfl⟩
    go_wp2_with fail
    refine (IH.out _ _ _ (by omega) (by omega) (by omega) (by omega)).mono ?_
    rintro e w' ⟨rfl, rfl⟩
    go_wp2_with fail
    refine (IH.out _ _ _ (by omega) (by omega) (by omega) (by omega)).mono ?_
    rintro e w' ⟨rfl, rfl⟩
    go_wp2_with fail
    go_ret
    exact ⟨by rw [← HF.out]; rfl, rfl⟩
set_option maxHeartbeats 2000000 in
set_option maxRecDepth 100000 in
theorem spec_l01Times.step1 (x y : Int) (w : World) (hx0 : 2 ≤ x) (hy0 : 2 ≤ y) (hx : x < 16) (hy : y < 16) (hbig : 4 ≤ x ∨ 4 ≤ y)
    (ih : ∀ (x y : Int) (w : World), 0 ≤ x → x < 4 → 0 ≤ y → y < 4 → Calls Try.prog 83 #[.int .u16 x, .int .u16 y] w fun e w' => e = .returned (.int .u16 (Nim.nmI 1 x y)) ∧ w' = w) :
    Calls Try.prog 83 #[.int .u16 x, .int .u16 y] w fun e w' => e = .returned (.int .u16 (Nim.nmI 2 x y)) ∧ w' = w := by
  have IH := Aside0.mk ih
  clear ih
  have HF := Aside0.mk (Nim.nmI_step 1 4 (by decide) (by decide) x y (by omega) (by omega) (by omega) (by omega))
  have f0 : decide (x < 2) = false := by simp; omega
  have f1 : decide (y < 2) = false := by simp; omega
  go_enter Try.func83, Try.ntmps83
  go_wp2_with (fail)
  go_loop [5] (fun v => v = .int .u64 1 ∨ v = .int .u64 2) (fun v => 9 - (intOf v).toNat)
  case atStart => exact .inl rfl
  case round =>
    rcases hrel with rfl | rfl
    · by_cases h1 : x / 4 = 0
      · have h2 : (y / 4 != 0) = true := by rw [bne_iff_ne]; omega
        go_wp2_with fail
        exact ⟨(.inr rfl), by simp [intOf]⟩
      · go_wp2_with fail
        exact ⟨(.inr rfl), by simp [intOf]⟩
    · have h1 : x / 16 = 0 := by omega
      have h2 : (y / 16 != 0) = false := by rw [bne_eq_false_iff_eq]; omega
      have b1 : 0 ≤ x / 4 ∧ x / 4 < 4 := by omega
      have b2 : 0 ≤ y / 4 ∧ y / 4 < 4 := by omega
      have b3 : 0 ≤ x % 4 ∧ x % 4 < 4 := by omega
      have b4 : 0 ≤ y % 4 ∧ y % 4 < 4 := by omega
      have p0 := Nim.nmI_lt 1 4 (by decide) (x / 4) (y / 4) (by omega) (by omega) (by omega) (by omega)
      go_wp2_with fail
      refine (IH.out _ _ _ (by omega) (by omega) (by omega) (by omega)).mono ?_
      rintro e w' ⟨rfl, rfl⟩
      go_wp2_with fail
      refine (IH.out _ _ _ (by omega) (by omega) (by omega) (by omega)).mono ?_
      rintro e w' ⟨rfl, rfl⟩
      go_wp2_with fail
      refine (IH.out _ _ _ (by omega) (by omega) (by omega) (by omega)).mono ?_
      rintro e w' ⟨rfl, rfl⟩
      go_wp2_with fail
      refine (IH.out _ _ _ (by omega) (by omega) (by omega) (by omega)).mono ?_
      rintro e w' ⟨rfl, rfl⟩
      go_wp2_with fail
      refine (IH.out _ _ _ (by omega) (by omega) (by omega) (by omega)).mono ?_
      rintro e w' ⟨rfl, rfl⟩
      go_wp2_with fail
      go_ret
      exact ⟨by rw [← HF.out]; rfl, rfl⟩
set_option maxHeartbeats 2000000 in
set_option maxRecDepth 100000 in
theorem spec_l01Times.step2 (x y : Int) (w : World) (hx0 : 2 ≤ x) (hy0 : 2 ≤ y) (hx : x < 256) (hy : y < 256) (hbig : 16 ≤ x ∨ 16 ≤ y)
    (ih : ∀ (x y : Int) (w : World), 0 ≤ x → x < 16 → 0 ≤ y → y < 16 → Calls Try.prog 83 #[.int .u16 x, .int .u16 y] w fun e w' => e = .returned (.int .u16 (Nim.nmI 2 x y)) ∧ w' = w) :
    Calls Try.prog 83 #[.int .u16 x, .int .u16 y] w fun e w' => e = .returned (.int .u16 (Nim.nmI 3 x y)) ∧ w' = w := by
  have IH := Aside0.mk ih
  clear ih
  have HF := Aside0.mk (Nim.nmI_step 2 16 (by decide) (by decide) x y (by omega) (by omega) (by omega) (by omega))
  have f0 : decide (x < 2) = false := by simp; omega
  have f1 : decide (y < 2) = false := by simp; omega
  go_enter Try.func83, Try.ntmps83
  go_wp2_with (fail)
  go_loop [5] (fun v => v = .int .u64 1 ∨ v = .int .u64 2 ∨ v = .int .u64 4) (fun v => 9 - (intOf v).toNat)
  case atStart => exact .inl rfl
  case round =>
    rcases hrel with rfl | rfl | rfl
    · by_cases h1 : x / 4 = 0
      · have h2 : (y / 4 != 0) = true := by rw [bne_iff_ne]; omega
        go_wp2_with fail
        exact ⟨(.inr (.inl rfl)), by simp [intOf]⟩
      · go_wp2_with fail
        exact ⟨(.inr (.inl rfl)), by simp [intOf]⟩
    · by_cases h1 : x / 16 = 0
      · have h2 : (y / 16 != 0) = true := by rw [bne_iff_ne]; omega
        go_wp2_with fail
        exact ⟨(.inr (.inr rfl)), by simp [intOf]⟩
      · go_wp2_with fail
        exact ⟨(.inr (.inr rfl)), by simp [intOf]⟩
    · have h1 : x / 256 = 0 := by omega
      have h2 : (y / 256 != 0) = false := by rw [bne_eq_false_iff_eq]; omega
      have b1 : 0 ≤ x / 16 ∧ x / 16 < 16 := by omega
      have b2 : 0 ≤ y / 16 ∧ y / 16 < 16 := by omega
      have b3 : 0 ≤ x % 16 ∧ x % 16 < 16 := by omega
      have b4 : 0 ≤ y % 16 ∧ y % 16 < 16 := by omega
      have p0 := Nim.nmI_lt 2 16 (by decide) (x / 16) (y / 16) (by omega) (by omega) (by omega) (by omega)
      go_wp2_with fail
      refine (IH.out _ _ _ (by omega) (by omega) (by omega) (by omega)).mono ?_
      rintro e w' ⟨rfl, rfl⟩
      go_wp2_with fail
      refine (IH.out _ _ _ (by omega) (by omega) (by omega) (by omega)).mono ?_
      rintro e w' ⟨rfl, rfl⟩
      go_wp2_with fail
      refine (IH.out _ _ _ (by omega) (by omega) (by omega) (by omega)).mono ?_
      rintro e w' ⟨rfl, rfl⟩
      go_wp2_with fail
      refine (IH.out _ _ _ (by omega) (by omega) (by omega) (by omega)).mono ?_
      rintro e w' ⟨rfl, rfl⟩
      go_wp2_with fail
      refine (IH.out _ _ _ (by omega) (by omega) (by omega) (by omega)).mono ?_
      rintro e w' ⟨rfl, rfl⟩
      go_wp2_with fail
      go_ret
      exact ⟨by rw [← HF.out]; rfl, rfl⟩
set_option maxHeartbeats 2000000 in
set_option maxRecDepth 100000 in
theorem spec_l01Times.step3 (x y : Int) (w : World) (hx0 : 2 ≤ x) (hy0 : 2 ≤ y) (hx : x < 65536) (hy : y < 65536) (hbig : 256 ≤ x ∨ 256 ≤ y)
    (ih : ∀ (x y : Int) (w : World), 0 ≤ x → x < 256 → 0 ≤ y → y < 256 → Calls Try.prog 83 #[.int .u16 x, .int .u16 y] w fun e w' => e = .returned (.int .u16 (Nim.nmI 3 x y)) ∧ w' = w) :
    Calls Try.prog 83 #[.int .u16 x, .int .u16 y] w fun e w' => e = .returned (.int .u16 (Nim.nmI 4 x y)) ∧ w' = w := by
  have IH := Aside0.mk ih
  clear ih
  have HF := Aside0.mk (Nim.nmI_step 3 256 (by decide) (by decide) x y (by omega) (by omega) (by omega) (by omega))
  have f0 : decide (x < 2) = false := by simp; omega
  have f1 : decide (y < 2) = false := by simp; omega
  go_enter Try.func83, Try.ntmps83
  go_wp2_with (fail)
  go_loop [5] (fun v => v = .int .u64 1 ∨ v = .int .u64 2 ∨ v = .int .u64 4 ∨ v = .int .u64 8) (fun v => 9 - (intOf v).toNat)
  case atStart => exact .inl rfl
  case round =>
    rcases hrel with rfl | rfl | rfl | rfl
    · by_cases h1 : x / 4 = 0
      · have h2 : (y / 4 != 0) = true := by rw [bne_iff_ne]; omega
        go_wp2_with fail
        exact ⟨(.inr (.inl rfl)), by simp [intOf]⟩
      · go_wp2_with fail
        exact ⟨(.inr (.inl rfl)), by simp [intOf]⟩
    · by_cases h1 : x / 16 = 0
      · have h2 : (y / 16 != 0) = true := by rw [bne_iff_ne]; omega
        go_wp2_with fail
        exact ⟨(.inr (.inr (.inl rfl))), by simp [intOf]⟩
      · go_wp2_with fail
        exact ⟨(.inr (.inr (.inl rfl))), by simp [intOf]⟩
    · by_cases h1 : x / 256 = 0
      · have h2 : (y / 256 != 0) = true := by rw [bne_iff_ne]; omega
        go_wp2_with fail
        exact ⟨(.inr (.inr (.inr rfl))), by simp [intOf]⟩
      · go_wp2_with fail
        exact ⟨(.inr (.inr (.inr rfl))), by simp [intOf]⟩
    · have b1 : 0 ≤ x / 256 ∧ x / 256 < 256 := by omega
      have b2 : 0 ≤ y / 256 ∧ y / 256 < 256 := by omega
      have b3 : 0 ≤ x % 256 ∧ x % 256 < 256 := by omega
      have b4 : 0 ≤ y % 256 ∧ y % 256 < 256 := by omega
      have p0 := Nim.nmI_lt 3 256 (by decide) (x / 256) (y / 256) (by omega) (by omega) (by omega) (by omega)
      go_wp2_with fail
      refine (IH.out _ _ _ (by omega) (by omega) (by omega) (by omega)).mono ?_
      rintro e w' ⟨rfl, rfl⟩
      go_wp2_with fail
      refine (IH.out _ _ _ (by omega) (by omega) (by omega) (by omega)).mono ?_
      rintro e w' ⟨rfl, rfl⟩
      go_wp2_with fail
      refine (IH.out _ _ _ (by omega) (by omega) (by omega) (by omega)).mono ?_
      rintro e w' ⟨rfl, rfl⟩
      go_wp2_with fail
      refine (IH.out _ _ _ (by omega) (by omega) (by omega) (by omega)).mono ?_
      rintro e w' ⟨rfl, rfl⟩
      go_wp2_with fail
      refine (IH.out _ _ _ (by omega) (by omega) (by omega) (by omega)).mono ?_
      rintro e w' ⟨rfl, rfl⟩
      go_wp2_with fail
      go_ret
      exact ⟨by rw [← HF.out]; rfl, rfl⟩
theorem spec_l01Times.all : ∀ k : Nat, k ≤ 4 → ∀ (x y : Int) (w : World), 0 ≤ x → x < ((2 ^ 2 ^ k : Nat) : Int) → 0 ≤ y → y < ((2 ^ 2 ^ k : Nat) : Int) → Calls Try.prog 83 #[.int .u16 x, .int .u16 y] w fun e w' => e = .returned (.int .u16 (Nim.nmI k x y)) ∧ w' = w
  | 0, _, x, y, w, h1, h2, h3, h4 => spec_l01Times.small 0 x y w h1 h3 (by simp at h2; omega) (by simp at h4; omega) (.inl (by simpa using h2))
  | 1, _, x, y, w, h1, h2, h3, h4 => by
    have h2' : x < 4 := h2
    have h4' : y < 4 := h4
    by_cases hs : x < 2 ∨ y < 2
    · exact spec_l01Times.small 1 x y w h1 h3 (by omega) (by omega) hs
    · by_cases hb : 2 ≤ x ∨ 2 ≤ y
      · exact spec_l01Times.step0 x y w (by omega) (by omega) h2' h4' hb (fun x y w a b c d => spec_l01Times.all 0 (by decide) x y w a b c d)
      · rw [Nim.nmI_lift (i := 0) (k := 1) (by decide) 2 (by decide) x y h1 (by omega) h3 (by omega)]
        exact spec_l01Times.all 0 (by decide) x y w h1 (show x < 2 by omega) h3 (show y < 2 by omega)
  | 2, _, x, y, w, h1, h2, h3, h4 => by
    have h2' : x < 16 := h2
    have h4' : y < 16 := h4
    by_cases hs : x < 2 ∨ y < 2
    · exact spec_l01Times.small 2 x y w h1 h3 (by omega) (by omega) hs
    · by_cases hb : 4 ≤ x ∨ 4 ≤ y
      · exact spec_l01Times.step1 x y w (by omega) (by omega) h2' h4' hb (fun x y w a b c d => spec_l01Times.all 1 (by decide) x y w a b c d)
      · rw [Nim.nmI_lift (i := 1) (k := 2) (by decide) 4 (by decide) x y h1 (by omega) h3 (by omega)]
        exact spec_l01Times.all 1 (by decide) x y w h1 (show x < 4 by omega) h3 (show y < 4 by omega)
  | 3, _, x, y, w, h1, h2, h3, h4 => by
    have h2' : x < 256 := h2
    have h4' : y < 256 := h4
    by_cases hs : x < 2 ∨ y < 2
    · exact spec_l01Times.small 3 x y w h1 h3 (by omega) (by omega) hs
    · by_cases hb : 16 ≤ x ∨ 16 ≤ y
      · exact spec_l01Times.step2 x y w (by omega) (by omega) h2' h4' hb (fun x y w a b c d => spec_l01Times.all 2 (by decide) x y w a b c d)
      · rw [Nim.nmI_lift (i := 2) (k := 3) (by decide) 16 (by decide) x y h1 (by omega) h3 (by omega)]
        exact spec_l01Times.all 2 (by decide) x y w h1 (show x < 16 by omega) h3 (show y < 16 by omega)
  | 4, _, x, y, w, h1, h2, h3, h4 => by
    have h2' : x < 65536 := h2
    have h4' : y < 65536 := h4
    by_cases hs : x < 2 ∨ y < 2
    · exact spec_l01Times.small 4 x y w h1 h3 (by omega) (by omega) hs
    · by_cases hb : 256 ≤ x ∨ 256 ≤ y
      · exact spec_l01Times.step3 x y w (by omega) (by omega) h2' h4' hb (fun x y w a b c d => spec_l01Times.all 3 (by decide) x y w a b c d)
      · rw [Nim.nmI_lift (i := 3) (k := 4) (by decide) 256 (by decide) x y h1 (by omega) h3 (by omega)]
        exact spec_l01Times.all 3 (by decide) x y w h1 (show x < 256 by omega) h3 (show y < 256 by omega)
  | k + 5, h, _, _, _, _, _, _, _ => absurd h (by omega)
theorem spec_l01Times.calls (a0 : Int) (a1 : Int) (r : Int) (w : World) (h : spec_l01Times.f a0 a1 = some r) :
    Calls Try.prog 83 #[.int .u16 a0, .int .u16 a1] w fun e w' => e = .returned (.int .u16 r) ∧ Drawn0 w w' := by
  unfold spec_l01Times.f at h
  split at h
  · rename_i hb
    obtain rfl := Option.some.inj h
    refine (spec_l01Times.all 4 (by decide) a0 a1 w hb.1 (show a0 < 65536 by omega) hb.2.2.1 (show a1 < 65536 by omega)).mono ?_
    rintro e w' ⟨rfl, rfl⟩
    exact ⟨rfl, Drawn0.refl _⟩
  · cases h
end Go.Proofs.Ytadfobooofkelaa.X

-- Laid by wip/xprint.py of this session (the kit's print program, with some contracts given by hand). Not trusted: Lean checks it.
namespace Go.Proofs.Ytadfobooofkelaa.X
open Go.RowKit Go.Proofs.YtadfobooofkelaaW.PrintWords Go.Proofs.YtadfobooofkelaaW.PrintLast Go.Proofs.YtadfobooofkelaaW.PrintMore
attribute [local go_sem] max2_int min2_int max_two min_two max_three min_three max_four min_four
set_option linter.unusedVariables false
set_option linter.unusedSimpArgs false
mutual
def spec_l01Half.l0 : Nat → Int → List Int → List Int → Int → Int → Option (Int × Bool)
  | 0, _, _, _, _, _ => none
  | k + 1, x0, x4, x5, x6, x7 => if x7 < 16 then (if 0 ≤ x7 then ((spec_l01Times.f (shl .u16 1 x7) (shl .u16 1 x7)).bind fun t107 => (spec_l01Half.l1 k x0 x4 x5 x6 x7 (shl .u16 1 x7) (Go.bits .xor .u16 (shl .u16 1 x7) t107) 0)) else (none)) else (spec_l01Half.l3 k x0 x4 x5 x6 0)
def spec_l01Half.l1 : Nat → Int → List Int → List Int → Int → Int → Int → Int → Int → Option (Int × Bool)
  | 0, _, _, _, _, _, _, _, _ => none
  | k + 1, x0, x4, x5, x6, x7, x8, x9, x10 => if x10 < (x4.length : Int) then (if 0 ≤ x10 then (if (Go.bits .xor .u16 x9 (rd x4 x10)) < x9 then (if x10 < (x5.length : Int) then (spec_l01Half.l1 k x0 x4 x5 x6 x7 (Go.bits .xor .u16 x8 (rd x5 x10)) (Go.bits .xor .u16 x9 (rd x4 x10)) (wrap64 (x10 + 1))) else (none)) else (spec_l01Half.l1 k x0 x4 x5 x6 x7 x8 x9 (wrap64 (x10 + 1)))) else (none)) else (if x4.length < 70368744177664 then ((some (x4 ++ [x9] : List Int)).bind fun y111 => (if x5.length < 70368744177664 then (spec_l01Half.l2 k x0 y111 (x5 ++ [x8]) x6 x7 (wrap64 ((y111.length : Int) - 1))) else (none))) else (none))
def spec_l01Half.l2 : Nat → Int → List Int → List Int → Int → Int → Int → Option (Int × Bool)
  | 0, _, _, _, _, _, _ => none
  | k + 1, x0, x4, x5, x6, x7, x11 => if x11 > 0 then (if 0 ≤ x11 then (if x11 < (x4.length : Int) then (if 0 ≤ (wrap64 (x11 - 1)) then (if (wrap64 (x11 - 1)) < (x4.length : Int) then (if (rd x4 x11) > (rd x4 (wrap64 (x11 - 1))) then (if x11 < (x5.length : Int) then (if (wrap64 (x11 - 1)) < (x5.length : Int) then (spec_l01Half.l2 k x0 ((x4.set (x11 : Int).toNat (rd x4 (wrap64 (x11 - 1)))).set ((wrap64 (x11 - 1)) : Int).toNat (rd x4 x11)) ((x5.set (x11 : Int).toNat (rd x5 (wrap64 (x11 - 1)))).set ((wrap64 (x11 - 1)) : Int).toNat (rd x5 x11)) x6 x7 (wrap64 (x11 - 1))) else (none)) else (none)) else (spec_l01Half.l0 k x0 x4 x5 x6 (IntKind.u64.wrap (x7 + 1)))) else (none)) else (none)) else (none)) else (none)) else (spec_l01Half.l0 k x0 x4 x5 x6 (IntKind.u64.wrap (x7 + 1)))
def spec_l01Half.l3 : Nat → Int → List Int → List Int → Int → Int → Option (Int × Bool)
  | 0, _, _, _, _, _ => none
  | k + 1, x0, x4, x5, x6, x12 => if x12 < (x4.length : Int) then (if 0 ≤ x12 then (if (Go.bits .xor .u16 x0 (rd x4 x12)) < x0 then (if x12 < (x5.length : Int) then (spec_l01Half.l3 k (Go.bits .xor .u16 x0 (rd x4 x12)) x4 x5 (Go.bits .xor .u16 x6 (rd x5 x12)) (wrap64 (x12 + 1))) else (none)) else (spec_l01Half.l3 k x0 x4 x5 x6 (wrap64 (x12 + 1)))) else (none)) else (some (x6, (x0 == 0)))
end
def spec_l01Half.f (k : Nat) (a0 : Int) : Option (Int × Bool) := spec_l01Half.l0 k a0 (([] : List Int)) (([] : List Int)) 0 1
set_option maxHeartbeats 8000000 in
set_option maxRecDepth 100000 in
theorem spec_l01Half.calls (k : Nat) (a0 : Int) (r1 : Int) (r2 : Bool) (w : World) (h : spec_l01Half.f k a0 = some (r1, r2)) :
    Calls Try.prog 97 #[.int .u16 a0] w fun e w' => e = .returned (.tuple #[.int .u16 r1, .bool r2]) ∧ Below w.heap.size w w' := by
  have HB := Aside0.mk (Below.refl w.heap.size w)
  have H : (spec_l01Half.l0 k a0 (([] : List Int)) (([] : List Int)) 0 1) = some (r1, r2) := h
  clear h
  obtain ⟨y101, hy101⟩ : ∃ y_ : List Int, y_ = (([] : List Int)) := ⟨_, rfl⟩
  replace H : (spec_l01Half.l0 k a0 y101 (([] : List Int)) 0 1) = some (r1, r2) := by first | (rw [hy101]; with_reducible exact H) | (have H2_ := (Option.bind_some _ _).symm.trans H; rw [hy101]; with_reducible exact H2_) | (have H2_ := (Option.bind_some _ _).symm.trans H; with_reducible exact H2_) | with_reducible exact H | (rw [hy101]; exact H) | exact H
  have Ny101 := Aside0.mk hy101
  clear hy101
  obtain ⟨y104, hy104⟩ : ∃ y_ : List Int, y_ = (([] : List Int)) := ⟨_, rfl⟩
  replace H : (spec_l01Half.l0 k a0 y101 y104 0 1) = some (r1, r2) := by first | (rw [hy104]; with_reducible exact H) | (have H2_ := (Option.bind_some _ _).symm.trans H; rw [hy104]; with_reducible exact H2_) | (have H2_ := (Option.bind_some _ _).symm.trans H; with_reducible exact H2_) | with_reducible exact H | (rw [hy104]; exact H) | exact H
  have Ny104 := Aside0.mk hy104
  clear hy104
  have H' := Aside0.mk H
  clear H
  go_enter Try.func97, Try.ntmps97
  go_wp2_with (first | ((with_reducible refine gate_dst (N := 13) rfl ?_); refine Kd.R_lit (Kd.int .u16) _ 36 ?hg (N := 13) ?hd (xs := ([] : List Int)) (inner := []) (ok := fun _ => True) (okp := fun _ => True) ?hr ?hp (fun _ hk => hk) trivial (Below.refl _ _) (Nat.le_refl _) (by simp) ?_; (case hd => rfl); (case hg => rfl); (case hr => first | (go_simp; done) | (go_simp; rfl)); (case hp => exact (Reps.none _ _)); intro v102 w2 ho3 hb hg_ hnew_; clear hg_ hnew_; (first | rw [← Ny101.out] at ho3 | (simp only [Int.reduceToNat] at ho3; rw [← Ny101.out] at ho3)); have n0_ := Aside0.mk (Kd.R_lower ho3 (below_size (by repeat (first | (with_reducible first | exact HB.out | apply below_alloc | apply pw_below_drewN | apply below_drew1) | exact HB.out)))); have n1_ := Aside0.mk (below_step (by repeat (first | (with_reducible first | exact HB.out | apply below_alloc | apply pw_below_drewN | apply below_drew1) | exact HB.out)) hb); clear HB; have HO103 := n0_; have HB := n1_; clear n0_ n1_; clear hb ho3) | ((with_reducible refine gate_dst (N := 14) rfl ?_); refine Kd.R_lit (Kd.int .u16) _ 36 ?hg (N := 14) ?hd (xs := ([] : List Int)) (inner := []) (ok := fun _ => True) (okp := fun _ => True) ?hr ?hp (fun _ hk => hk) trivial (Below.refl _ _) (Nat.le_refl _) (by simp) ?_; (case hd => rfl); (case hg => rfl); (case hr => first | (go_simp; done) | (go_simp; rfl)); (case hp => exact (Reps.none _ _)); intro v105 w4 ho5 hb hg_ hnew_; clear hg_ hnew_; (first | rw [← Ny104.out] at ho5 | (simp only [Int.reduceToNat] at ho5; rw [← Ny104.out] at ho5)); have n0_ := Aside0.mk (Kd.R_elder' (by (with_reducible repeat (first | apply Kd.R_alloc | apply Kd.R_drewN | apply Kd.R_drew)); exact HO103.out) (Kd.R_base ho5) hb); have n1_ := Aside0.mk (Kd.R_lower (Kd.R_new' ho5 (Kd.R_lt (by (with_reducible repeat (first | apply Kd.R_alloc | apply Kd.R_drewN | apply Kd.R_drew)); exact HO103.out))) (below_size (by repeat (first | (with_reducible first | exact HB.out | apply below_alloc | apply pw_below_drewN | apply below_drew1) | exact HB.out)))); have n2_ := Aside0.mk (below_step (by repeat (first | (with_reducible first | exact HB.out | apply below_alloc | apply pw_below_drewN | apply below_drew1) | exact HB.out)) hb); clear HO103; clear HB; have HO103 := n0_; have HO106 := n1_; have HB := n2_; clear n0_ n1_ n2_; clear hb ho5))
  repeat (go_quiet (first | ((with_reducible refine gate_dst (N := 13) rfl ?_); refine Kd.R_lit (Kd.int .u16) _ 36 ?hg (N := 13) ?hd (xs := ([] : List Int)) (inner := []) (ok := fun _ => True) (okp := fun _ => True) ?hr ?hp (fun _ hk => hk) trivial (Below.refl _ _) (Nat.le_refl _) (by simp) ?_; (case hd => rfl); (case hg => rfl); (case hr => first | (go_simp; done) | (go_simp; rfl)); (case hp => exact (Reps.none _ _)); intro v102 w2 ho3 hb hg_ hnew_; clear hg_ hnew_; (first | rw [← Ny101.out] at ho3 | (simp only [Int.reduceToNat] at ho3; rw [← Ny101.out] at ho3)); have n0_ := Aside0.mk (Kd.R_lower ho3 (below_size (by repeat (first | (with_reducible first | exact HB.out | apply below_alloc | apply pw_below_drewN | apply below_drew1) | exact HB.out)))); have n1_ := Aside0.mk (below_step (by repeat (first | (with_reducible first | exact HB.out | apply below_alloc | apply pw_below_drewN | apply below_drew1) | exact HB.out)) hb); clear HB; have HO103 := n0_; have HB := n1_; clear n0_ n1_; clear hb ho3) | ((with_reducible refine gate_dst (N := 14) rfl ?_); refine Kd.R_lit (Kd.int .u16) _ 36 ?hg (N := 14) ?hd (xs := ([] : List Int)) (inner := []) (ok := fun _ => True) (okp := fun _ => True) ?hr ?hp (fun _ hk => hk) trivial (Below.refl _ _) (Nat.le_refl _) (by simp) ?_; (case hd => rfl); (case hg => rfl); (case hr => first | (go_simp; done) | (go_simp; rfl)); (case hp => exact (Reps.none _ _)); intro v105 w4 ho5 hb hg_ hnew_; clear hg_ hnew_; (first | rw [← Ny104.out] at ho5 | (simp only [Int.reduceToNat] at ho5; rw [← Ny104.out] at ho5)); have n0_ := Aside0.mk (Kd.R_elder' (by (with_reducible repeat (first | apply Kd.R_alloc | apply Kd.R_drewN | apply Kd.R_drew)); exact HO103.out) (Kd.R_base ho5) hb); have n1_ := Aside0.mk (Kd.R_lower (Kd.R_new' ho5 (Kd.R_lt (by (with_reducible repeat (first | apply Kd.R_alloc | apply Kd.R_drewN | apply Kd.R_drew)); exact HO103.out))) (below_size (by repeat (first | (with_reducible first | exact HB.out | apply below_alloc | apply pw_below_drewN | apply below_drew1) | exact HB.out)))); have n2_ := Aside0.mk (below_step (by repeat (first | (with_reducible first | exact HB.out | apply below_alloc | apply pw_below_drewN | apply below_drew1) | exact HB.out)) hb); clear HO103; clear HB; have HO103 := n0_; have HO106 := n1_; have HB := n2_; clear n0_ n1_ n2_; clear hb ho5)); try go_wp2_with (first | ((with_reducible refine gate_dst (N := 13) rfl ?_); refine Kd.R_lit (Kd.int .u16) _ 36 ?hg (N := 13) ?hd (xs := ([] : List Int)) (inner := []) (ok := fun _ => True) (okp := fun _ => True) ?hr ?hp (fun _ hk => hk) trivial (Below.refl _ _) (Nat.le_refl _) (by simp) ?_; (case hd => rfl); (case hg => rfl); (case hr => first | (go_simp; done) | (go_simp; rfl)); (case hp => exact (Reps.none _ _)); intro v102 w2 ho3 hb hg_ hnew_; clear hg_ hnew_; (first | rw [← Ny101.out] at ho3 | (simp only [Int.reduceToNat] at ho3; rw [← Ny101.out] at ho3)); have n0_ := Aside0.mk (Kd.R_lower ho3 (below_size (by repeat (first | (with_reducible first | exact HB.out | apply below_alloc | apply pw_below_drewN | apply below_drew1) | exact HB.out)))); have n1_ := Aside0.mk (below_step (by repeat (first | (with_reducible first | exact HB.out | apply below_alloc | apply pw_below_drewN | apply below_drew1) | exact HB.out)) hb); clear HB; have HO103 := n0_; have HB := n1_; clear n0_ n1_; clear hb ho3) | ((with_reducible refine gate_dst (N := 14) rfl ?_); refine Kd.R_lit (Kd.int .u16) _ 36 ?hg (N := 14) ?hd (xs := ([] : List Int)) (inner := []) (ok := fun _ => True) (okp := fun _ => True) ?hr ?hp (fun _ hk => hk) trivial (Below.refl _ _) (Nat.le_refl _) (by simp) ?_; (case hd => rfl); (case hg => rfl); (case hr => first | (go_simp; done) | (go_simp; rfl)); (case hp => exact (Reps.none _ _)); intro v105 w4 ho5 hb hg_ hnew_; clear hg_ hnew_; (first | rw [← Ny104.out] at ho5 | (simp only [Int.reduceToNat] at ho5; rw [← Ny104.out] at ho5)); have n0_ := Aside0.mk (Kd.R_elder' (by (with_reducible repeat (first | apply Kd.R_alloc | apply Kd.R_drewN | apply Kd.R_drew)); exact HO103.out) (Kd.R_base ho5) hb); have n1_ := Aside0.mk (Kd.R_lower (Kd.R_new' ho5 (Kd.R_lt (by (with_reducible repeat (first | apply Kd.R_alloc | apply Kd.R_drewN | apply Kd.R_drew)); exact HO103.out))) (below_size (by repeat (first | (with_reducible first | exact HB.out | apply below_alloc | apply pw_below_drewN | apply below_drew1) | exact HB.out)))); have n2_ := Aside0.mk (below_step (by repeat (first | (with_reducible first | exact HB.out | apply below_alloc | apply pw_below_drewN | apply below_drew1) | exact HB.out)) hb); clear HO103; clear HB; have HO103 := n0_; have HO106 := n1_; have HB := n2_; clear n0_ n1_ n2_; clear hb ho5)))
  go_loopg [4, 5, 7] k (fun kq v4 v5 v7 w' => ∃ (x4_1 : List Int) (x5_1 : List Int) (x7_1 : Int), v7 = .int .u64 x7_1 ∧ Aside0 (spec_l01Half.l0 kq a0 x4_1 x5_1 0 x7_1 = some (r1, r2)) ∧ Aside0 (kq ≤ k) ∧ Aside0 (Kd.R (Kd.int .u16) 36 w' w.heap.size (fun k_ => some k_ ≠ (v5 : Value).ownBlock) v4 x4_1) ∧ Aside0 (Kd.R (Kd.int .u16) 36 w' w.heap.size (fun k_ => some k_ ≠ (v4 : Value).ownBlock) v5 x5_1) ∧ Aside0 (Below w.heap.size w w'))
  case atStart => exact ⟨(y101), (y104), (1), (by first | rfl | (simp; done) | (simp [*]; done)), H', ⟨Nat.le_refl _⟩, ⟨by (with_reducible repeat (first | apply Kd.R_alloc | apply Kd.R_drewN | apply Kd.R_drew)); exact Kd.R_mono HO103.out (fun _ hk => hk.2)⟩, ⟨by (with_reducible repeat (first | apply Kd.R_alloc | apply Kd.R_drewN | apply Kd.R_drew)); exact Kd.R_mono HO106.out (fun _ hk => hk.2)⟩, ⟨by repeat (first | (with_reducible first | exact HB.out | apply below_alloc | apply pw_below_drewN | apply below_drew1) | exact HB.out)⟩⟩
  case round =>
    clear H'
    try clear p2
    obtain ⟨x4_1, x5_1, x7_1, rfl, HA, HK1, HO_4, HO_5, HB⟩ := hrel
    cases gk with
    | zero => exact absurd HA.out (by simp [spec_l01Half.l0])
    | succ k1 =>
      have H := HA.out
      clear HA
      simp only [spec_l01Half.l0] at H
      by_cases c6 : x7_1 < 16
      · rw [if_pos c6] at H
        have c6b0 : decide (x7_1 < 16) = true := decide_eq_true c6
        clear c6
        by_cases c7 : 0 ≤ x7_1
        · rw [if_pos c7] at H
          have c7b0 := eq_true c7
          have c7b1 : decide (0 ≤ x7_1) = true := decide_eq_true c7
          clear c7
          obtain ⟨ji8, hji8⟩ : ∃ j_ : Int, (shl .u16 1 x7_1) = j_ := ⟨_, rfl⟩
          replace H : ((spec_l01Times.f (ji8) (ji8)).bind fun t107 => (spec_l01Half.l1 k1 a0 x4_1 x5_1 0 x7_1 ji8 (Go.bits .xor .u16 (ji8) t107) 0)) = some (r1, r2) := by first | (rw [hji8] at H; exact H) | (simp only [hji8] at H ⊢; exact H)
          have hji8_ : (IntKind.u16.wrap (1 * 2 ^ min x7_1.toNat 16)) = ji8 := hji8
          have hji8z : x7_1 ≤ 16 → (IntKind.u16.wrap (1 * 2 ^ x7_1.toNat)) = ji8 := shl_small hji8
          have hji8u : (IntKind.u16.wrap (2 ^ min x7_1.toNat 16)) = ji8 := by have h_ := hji8_; rw [Int.one_mul] at h_; exact h_
          have hji8v : x7_1 ≤ 16 → (IntKind.u16.wrap (2 ^ x7_1.toNat)) = ji8 := fun hle_ => by have h_ := hji8z hle_; rw [Int.one_mul] at h_; exact h_
          replace H := Option.bind_eq_some_iff.mp H
          obtain ⟨t107, A90, H⟩ := H
          replace H : (spec_l01Half.l1 k1 a0 x4_1 x5_1 0 x7_1 ji8 (Go.bits .xor .u16 (ji8) t107) 0) = some (r1, r2) := H
          have A9 := Aside0.mk A90
          clear A90
          have H' := Aside0.mk H
          clear H
          go_wp2_with (first | (go_at_call 83; (with_reducible refine (spec_l01Times.calls ji8 ji8 t107 _ A9.out).mono ?_); rintro e w' ⟨rfl, ⟨nd, rfl⟩⟩; (try first | exact ⟨rfl, _, World.drewN_drewN _ _ _⟩ | exact ⟨rfl, _, Eq.trans (World.drewN_drewN _ _ _) (congrArg (World.drewN _) (Nat.add_assoc _ _ _))⟩)))
          repeat (go_quiet (first | (go_at_call 83; (with_reducible refine (spec_l01Times.calls ji8 ji8 t107 _ A9.out).mono ?_); rintro e w' ⟨rfl, ⟨nd, rfl⟩⟩; (try first | exact ⟨rfl, _, World.drewN_drewN _ _ _⟩ | exact ⟨rfl, _, Eq.trans (World.drewN_drewN _ _ _) (congrArg (World.drewN _) (Nat.add_assoc _ _ _))⟩))); try go_wp2_with (first | (go_at_call 83; (with_reducible refine (spec_l01Times.calls ji8 ji8 t107 _ A9.out).mono ?_); rintro e w' ⟨rfl, ⟨nd, rfl⟩⟩; (try first | exact ⟨rfl, _, World.drewN_drewN _ _ _⟩ | exact ⟨rfl, _, Eq.trans (World.drewN_drewN _ _ _) (congrArg (World.drewN _) (Nat.add_assoc _ _ _))⟩))))
          go_loopg [8, 9, 10] k1 (fun kq v8 v9 v10 w' => ∃ (x8_2 : Int) (x9_2 : Int) (x10_2 : Int), v8 = .int .u16 x8_2 ∧ v9 = .int .u16 x9_2 ∧ v10 = .int .i64 x10_2 ∧ Aside0 (spec_l01Half.l1 kq a0 x4_1 x5_1 0 x7_1 x8_2 x9_2 x10_2 = some (r1, r2)) ∧ Aside0 (kq ≤ k1) ∧ Aside0 (Kd.R (Kd.int .u16) 36 w' w.heap.size (fun k_ => some k_ ≠ (u5 : Value).ownBlock) u4 x4_1) ∧ Aside0 (Kd.R (Kd.int .u16) 36 w' w.heap.size (fun k_ => some k_ ≠ (u4 : Value).ownBlock) u5 x5_1) ∧ Aside0 (Below w.heap.size w w'))
          case atStart => exact ⟨(ji8), (Go.bits .xor .u16 (ji8) t107), (0), (by first | rfl | (simp; done) | (simp only [← hji8] <;> (first | rfl | simp)) | (simp [*]; done)), (by first | rfl | (simp; done) | (simp only [← hji8] <;> (first | rfl | simp)) | (simp [*]; done)), (by first | rfl | (simp; done) | (simp [*]; done)), H', ⟨Nat.le_refl _⟩, ⟨by (with_reducible repeat (first | apply Kd.R_alloc | apply Kd.R_drewN | apply Kd.R_drew)); exact HO_4.out⟩, ⟨by (with_reducible repeat (first | apply Kd.R_alloc | apply Kd.R_drewN | apply Kd.R_drew)); exact HO_5.out⟩, ⟨by repeat (first | (with_reducible first | exact HB.out | apply below_alloc | apply pw_below_drewN | apply below_drew1) | exact HB.out)⟩⟩
          case round =>
            clear H'
            try clear p2
            try clear c6
            try clear c6b0
            try clear c7
            try clear c7b0
            try clear c7b1
            try clear c9
            try clear p2
            obtain ⟨x8_2, x9_2, x10_2, rfl, rfl, rfl, HA, HK2, HO_4, HO_5, HB⟩ := hrel
            cases gk with
            | zero => exact absurd HA.out (by simp [spec_l01Half.l1])
            | succ k2 =>
              have H := HA.out
              clear HA
              simp only [spec_l01Half.l1] at H
              by_cases c10 : x10_2 < (x4_1.length : Int)
              · rw [if_pos c10] at H
                have c10b0 : decide (x10_2 < (x4_1.length : Int)) = true := decide_eq_true c10
                clear c10
                by_cases c11 : 0 ≤ x10_2
                · rw [if_pos c11] at H
                  have c11b0 : decide (0 ≤ x10_2) = true := decide_eq_true c11
                  clear c11
                  by_cases c12 : (Go.bits .xor .u16 x9_2 (rd x4_1 x10_2)) < x9_2
                  · rw [if_pos c12] at H
                    have c12b0 : decide ((Go.bits .xor .u16 x9_2 (rd x4_1 x10_2)) < x9_2) = true := decide_eq_true c12
                    clear c12
                    by_cases c13 : x10_2 < (x5_1.length : Int)
                    · rw [if_pos c13] at H
                      have c13b0 : decide (x10_2 < (x5_1.length : Int)) = true := decide_eq_true c13
                      clear c13
                      have H' := Aside0.mk H
                      clear H
                      obtain ⟨Ao14, co14, eo14⟩ := Kd.R_slice HO_4.out
                      subst eo14
                      have p108 : 0 ≤ (x10_2 : Int) := of_decide_eq_true (by first | (with_reducible assumption) | assumption)
                      have q108 : x10_2 < (x4_1.length : Int) := of_decide_eq_true (by first | (with_reducible assumption) | assumption)
                      obtain ⟨ad108, e108, hx108_0⟩ := Kd.at_int (Kd.R_reads' HO_4.out).2.2 x10_2 p108 q108
                      cases e108
                      replace p108 := eq_true p108
                      replace q108 := eq_true q108
                      have p109 : 0 ≤ (x10_2 : Int) := of_decide_eq_true (by first | (with_reducible assumption) | assumption)
                      have q109 : x10_2 < (x4_1.length : Int) := of_decide_eq_true (by first | (with_reducible assumption) | assumption)
                      obtain ⟨ad109, e109, hx109_0⟩ := Kd.at_int (Kd.R_reads' HO_4.out).2.2 x10_2 p109 q109
                      obtain rfl : ad108 = ad109 := (by injection e109)
                      replace p109 := eq_true p109
                      replace q109 := eq_true q109
                      obtain ⟨Ao15, co15, eo15⟩ := Kd.R_slice HO_5.out
                      subst eo15
                      have p110 : 0 ≤ (x10_2 : Int) := of_decide_eq_true (by first | (with_reducible assumption) | assumption)
                      have q110 : x10_2 < (x5_1.length : Int) := of_decide_eq_true (by first | (with_reducible assumption) | assumption)
                      obtain ⟨ad110, e110, hx110_0⟩ := Kd.at_int (Kd.R_reads' HO_5.out).2.2 x10_2 p110 q110
                      cases e110
                      replace p110 := eq_true p110
                      replace q110 := eq_true q110
                      go_wp2
                      repeat (go_quiet (fail); try go_wp2)
                      go_roundg k2
                      case measure => have := HK1.out; have := HK2.out; omega
                      case rel => exact ⟨(Go.bits .xor .u16 x8_2 (rd x5_1 x10_2)), (Go.bits .xor .u16 x9_2 (rd x4_1 x10_2)), (wrap64 (x10_2 + 1)), (by first | rfl | (simp; done) | (simp [*]; done)), (by first | rfl | (simp; done) | (simp [*]; done)), (by first | rfl | (simp; done) | (simp [*]; done)), H', ⟨by have := HK1.out; have := HK2.out; omega⟩, ⟨by (with_reducible repeat (first | apply Kd.R_alloc | apply Kd.R_drewN | apply Kd.R_drew)); exact HO_4.out⟩, ⟨by (with_reducible repeat (first | apply Kd.R_alloc | apply Kd.R_drewN | apply Kd.R_drew)); exact HO_5.out⟩, ⟨by repeat (first | (with_reducible first | exact HB.out | apply below_alloc | apply pw_below_drewN | apply below_drew1) | exact HB.out)⟩⟩
                    · rw [if_neg c13] at H
                      exact absurd H (by simp)
                  · rw [if_neg c12] at H
                    have c12b0 : decide ((Go.bits .xor .u16 x9_2 (rd x4_1 x10_2)) < x9_2) = false := decide_eq_false c12
                    clear c12
                    have H' := Aside0.mk H
                    clear H
                    obtain ⟨Ao16, co16, eo16⟩ := Kd.R_slice HO_4.out
                    subst eo16
                    have p108 : 0 ≤ (x10_2 : Int) := of_decide_eq_true (by first | (with_reducible assumption) | assumption)
                    have q108 : x10_2 < (x4_1.length : Int) := of_decide_eq_true (by first | (with_reducible assumption) | assumption)
                    obtain ⟨ad108, e108, hx108_0⟩ := Kd.at_int (Kd.R_reads' HO_4.out).2.2 x10_2 p108 q108
                    cases e108
                    replace p108 := eq_true p108
                    replace q108 := eq_true q108
                    go_wp2
                    repeat (go_quiet (fail); try go_wp2)
                    go_roundg k2
                    case measure => have := HK1.out; have := HK2.out; omega
                    case rel => exact ⟨(x8_2), (x9_2), (wrap64 (x10_2 + 1)), (by first | rfl | (simp; done) | (simp [*]; done)), (by first | rfl | (simp; done) | (simp [*]; done)), (by first | rfl | (simp; done) | (simp [*]; done)), H', ⟨by have := HK1.out; have := HK2.out; omega⟩, ⟨by (with_reducible repeat (first | apply Kd.R_alloc | apply Kd.R_drewN | apply Kd.R_drew)); exact HO_4.out⟩, ⟨by (with_reducible repeat (first | apply Kd.R_alloc | apply Kd.R_drewN | apply Kd.R_drew)); exact HO_5.out⟩, ⟨by repeat (first | (with_reducible first | exact HB.out | apply below_alloc | apply pw_below_drewN | apply below_drew1) | exact HB.out)⟩⟩
                · rw [if_neg c11] at H
                  exact absurd H (by simp)
              · rw [if_neg c10] at H
                have c10b0 : decide (x10_2 < (x4_1.length : Int)) = false := decide_eq_false c10
                clear c10
                by_cases c17 : x4_1.length < 70368744177664
                · rw [if_pos c17] at H
                  have LMc17 := Aside0.mk c17
                  clear c17
                  obtain ⟨y111, hy111⟩ : ∃ y_ : List Int, y_ = (x4_1 ++ [x9_2]) := ⟨_, rfl⟩
                  replace H : (if x5_1.length < 70368744177664 then (spec_l01Half.l2 k2 a0 y111 (x5_1 ++ [x8_2]) 0 x7_1 (wrap64 ((y111.length : Int) - 1))) else (none)) = some (r1, r2) := by first | (rw [hy111]; with_reducible exact H) | (have H2_ := (Option.bind_some _ _).symm.trans H; rw [hy111]; with_reducible exact H2_) | (have H2_ := (Option.bind_some _ _).symm.trans H; with_reducible exact H2_) | with_reducible exact H | (rw [hy111]; exact H) | exact H
                  have Ny111 := Aside0.mk hy111
                  clear hy111
                  by_cases c18 : x5_1.length < 70368744177664
                  · rw [if_pos c18] at H
                    have LMc18 := Aside0.mk c18
                    clear c18
                    obtain ⟨y114, hy114⟩ : ∃ y_ : List Int, y_ = (x5_1 ++ [x8_2]) := ⟨_, rfl⟩
                    replace H : (spec_l01Half.l2 k2 a0 y111 y114 0 x7_1 (wrap64 ((y111.length : Int) - 1))) = some (r1, r2) := by first | (rw [hy114]; with_reducible exact H) | (have H2_ := (Option.bind_some _ _).symm.trans H; rw [hy114]; with_reducible exact H2_) | (have H2_ := (Option.bind_some _ _).symm.trans H; with_reducible exact H2_) | with_reducible exact H | (rw [hy114]; exact H) | exact H
                    have Ny114 := Aside0.mk hy114
                    clear hy114
                    have H' := Aside0.mk H
                    clear H
                    obtain ⟨Ao19, co19, eo19⟩ := Kd.R_slice HO_4.out
                    subst eo19
                    go_wp2_with (first | ((with_reducible refine gate_builtin (b := .append) (xs := #[.tmp 52, .tmp 54]) rfl ?_); at_builtin; refine Kd.R_append (Kd.int .u16) (w0 := w) w.heap.size rfl (.tmp 52) (.tmp 54) 24 36 (.int .u16 0) 2 rfl Try.underlying24 info36 rfl (by decide) (by omega) (.slice Ao19 x4_1.length co19) x4_1 x9_2 [.int .u16 x9_2] (fun k_ => some k_ ≠ (u5 : Value).ownBlock) (fun _ => False) rfl rfl ?aP (fun _ hk => hk.elim) ?aF ?aO ?aB ?aS ?aL ?_; (case aP => exact rfl); (case aB => exact (by repeat (first | (with_reducible first | exact HB.out | apply below_alloc | apply pw_below_drewN | apply below_drew1) | exact HB.out))); (case aF => exact (fun k_ hk => Kd.fresh' (Kd.R_lt (by (with_reducible repeat (first | apply Kd.R_alloc | apply Kd.R_drewN | apply Kd.R_drew)); exact HO_5.out)) k_ hk)); (case aO => exact (by (with_reducible repeat (first | apply Kd.R_alloc | apply Kd.R_drewN | apply Kd.R_drew)); exact HO_4.out)); (case aS => exact (below_size (by repeat (first | (with_reducible first | exact HB.out | apply below_alloc | apply pw_below_drewN | apply below_drew1) | exact HB.out)))); (case aL => have := LMc17.out; omega); intro v112 w20 ho hb hg hat; rw [← Ny111.out] at ho; have n0_ := Aside0.mk (Kd.R_after (ok := (fun _ => True)) (by (with_reducible repeat (first | apply Kd.R_alloc | apply Kd.R_drewN | apply Kd.R_drew)); exact Kd.R_mono HO_5.out (fun _ hk => ⟨trivial, hk⟩)) hg hat); have n1_ := Aside0.mk (hb); have n2_ := Aside0.mk (ho); clear HO_5; clear HB; clear HO_4; have HO_5 := n0_; have HB := n1_; have HO113 := n2_; clear n0_ n1_ n2_; clear ho hb hg hat) | ((with_reducible refine gate_builtin (b := .append) (xs := #[.tmp 56, .tmp 58]) rfl ?_); at_builtin; refine Kd.R_append (Kd.int .u16) (w0 := w) w.heap.size rfl (.tmp 56) (.tmp 58) 24 36 (.int .u16 0) 2 rfl Try.underlying24 info36 rfl (by decide) (by omega) u5 x5_1 x8_2 [.int .u16 x8_2] (fun k_ => some k_ ≠ (v112 : Value).ownBlock) (fun _ => False) rfl rfl ?aP (fun _ hk => hk.elim) ?aF ?aO ?aB ?aS ?aL ?_; (case aP => exact rfl); (case aB => exact (by repeat (first | (with_reducible first | exact HB.out | apply below_alloc | apply pw_below_drewN | apply below_drew1) | exact HB.out))); (case aF => exact (fun k_ hk => Kd.fresh' (Kd.R_lt (by (with_reducible repeat (first | apply Kd.R_alloc | apply Kd.R_drewN | apply Kd.R_drew)); exact HO113.out)) k_ hk)); (case aO => exact (by (with_reducible repeat (first | apply Kd.R_alloc | apply Kd.R_drewN | apply Kd.R_drew)); exact Kd.R_mono HO_5.out (fun _ hk => hk.2))); (case aS => exact (below_size (by repeat (first | (with_reducible first | exact HB.out | apply below_alloc | apply pw_below_drewN | apply below_drew1) | exact HB.out)))); (case aL => have := LMc18.out; omega); intro v115 w21 ho hb hg hat; rw [← Ny114.out] at ho; have n0_ := Aside0.mk (Kd.R_after (ok := (fun _ => True)) (by (with_reducible repeat (first | apply Kd.R_alloc | apply Kd.R_drewN | apply Kd.R_drew)); exact Kd.R_mono HO113.out (fun _ hk => ⟨trivial, hk⟩)) hg hat); have n1_ := Aside0.mk (hb); have n2_ := Aside0.mk (ho); clear HO113; clear HB; clear HO_5; have HO113 := n0_; have HB := n1_; have HO116 := n2_; clear n0_ n1_ n2_; clear ho hb hg hat; obtain ⟨Ao22, co22, eo22⟩ := Kd.R_slice HO113.out; subst eo22))
                    repeat (go_quiet (first | ((with_reducible refine gate_builtin (b := .append) (xs := #[.tmp 52, .tmp 54]) rfl ?_); at_builtin; refine Kd.R_append (Kd.int .u16) (w0 := w) w.heap.size rfl (.tmp 52) (.tmp 54) 24 36 (.int .u16 0) 2 rfl Try.underlying24 info36 rfl (by decide) (by omega) (.slice Ao19 x4_1.length co19) x4_1 x9_2 [.int .u16 x9_2] (fun k_ => some k_ ≠ (u5 : Value).ownBlock) (fun _ => False) rfl rfl ?aP (fun _ hk => hk.elim) ?aF ?aO ?aB ?aS ?aL ?_; (case aP => exact rfl); (case aB => exact (by repeat (first | (with_reducible first | exact HB.out | apply below_alloc | apply pw_below_drewN | apply below_drew1) | exact HB.out))); (case aF => exact (fun k_ hk => Kd.fresh' (Kd.R_lt (by (with_reducible repeat (first | apply Kd.R_alloc | apply Kd.R_drewN | apply Kd.R_drew)); exact HO_5.out)) k_ hk)); (case aO => exact (by (with_reducible repeat (first | apply Kd.R_alloc | apply Kd.R_drewN | apply Kd.R_drew)); exact HO_4.out)); (case aS => exact (below_size (by repeat (first | (with_reducible first | exact HB.out | apply below_alloc | apply pw_below_drewN | apply below_drew1) | exact HB.out)))); (case aL => have := LMc17.out; omega); intro v112 w20 ho hb hg hat; rw [← Ny111.out] at ho; have n0_ := Aside0.mk (Kd.R_after (ok := (fun _ => True)) (by (with_reducible repeat (first | apply Kd.R_alloc | apply Kd.R_drewN | apply Kd.R_drew)); exact Kd.R_mono HO_5.out (fun _ hk => ⟨trivial, hk⟩)) hg hat); have n1_ := Aside0.mk (hb); have n2_ := Aside0.mk (ho); clear HO_5; clear HB; clear HO_4; have HO_5 := n0_; have HB := n1_; have HO113 := n2_; clear n0_ n1_ n2_; clear ho hb hg hat) | ((with_reducible refine gate_builtin (b := .append) (xs := #[.tmp 56, .tmp 58]) rfl ?_); at_builtin; refine Kd.R_append (Kd.int .u16) (w0 := w) w.heap.size rfl (.tmp 56) (.tmp 58) 24 36 (.int .u16 0) 2 rfl Try.underlying24 info36 rfl (by decide) (by omega) u5 x5_1 x8_2 [.int .u16 x8_2] (fun k_ => some k_ ≠ (v112 : Value).ownBlock) (fun _ => False) rfl rfl ?aP (fun _ hk => hk.elim) ?aF ?aO ?aB ?aS ?aL ?_; (case aP => exact rfl); (case aB => exact (by repeat (first | (with_reducible first | exact HB.out | apply below_alloc | apply pw_below_drewN | apply below_drew1) | exact HB.out))); (case aF => exact (fun k_ hk => Kd.fresh' (Kd.R_lt (by (with_reducible repeat (first | apply Kd.R_alloc | apply Kd.R_drewN | apply Kd.R_drew)); exact HO113.out)) k_ hk)); (case aO => exact (by (with_reducible repeat (first | apply Kd.R_alloc | apply Kd.R_drewN | apply Kd.R_drew)); exact Kd.R_mono HO_5.out (fun _ hk => hk.2))); (case aS => exact (below_size (by repeat (first | (with_reducible first | exact HB.out | apply below_alloc | apply pw_below_drewN | apply below_drew1) | exact HB.out)))); (case aL => have := LMc18.out; omega); intro v115 w21 ho hb hg hat; rw [← Ny114.out] at ho; have n0_ := Aside0.mk (Kd.R_after (ok := (fun _ => True)) (by (with_reducible repeat (first | apply Kd.R_alloc | apply Kd.R_drewN | apply Kd.R_drew)); exact Kd.R_mono HO113.out (fun _ hk => ⟨trivial, hk⟩)) hg hat); have n1_ := Aside0.mk (hb); have n2_ := Aside0.mk (ho); clear HO113; clear HB; clear HO_5; have HO113 := n0_; have HB := n1_; have HO116 := n2_; clear n0_ n1_ n2_; clear ho hb hg hat; obtain ⟨Ao22, co22, eo22⟩ := Kd.R_slice HO113.out; subst eo22)); try go_wp2_with (first | ((with_reducible refine gate_builtin (b := .append) (xs := #[.tmp 52, .tmp 54]) rfl ?_); at_builtin; refine Kd.R_append (Kd.int .u16) (w0 := w) w.heap.size rfl (.tmp 52) (.tmp 54) 24 36 (.int .u16 0) 2 rfl Try.underlying24 info36 rfl (by decide) (by omega) (.slice Ao19 x4_1.length co19) x4_1 x9_2 [.int .u16 x9_2] (fun k_ => some k_ ≠ (u5 : Value).ownBlock) (fun _ => False) rfl rfl ?aP (fun _ hk => hk.elim) ?aF ?aO ?aB ?aS ?aL ?_; (case aP => exact rfl); (case aB => exact (by repeat (first | (with_reducible first | exact HB.out | apply below_alloc | apply pw_below_drewN | apply below_drew1) | exact HB.out))); (case aF => exact (fun k_ hk => Kd.fresh' (Kd.R_lt (by (with_reducible repeat (first | apply Kd.R_alloc | apply Kd.R_drewN | apply Kd.R_drew)); exact HO_5.out)) k_ hk)); (case aO => exact (by (with_reducible repeat (first | apply Kd.R_alloc | apply Kd.R_drewN | apply Kd.R_drew)); exact HO_4.out)); (case aS => exact (below_size (by repeat (first | (with_reducible first | exact HB.out | apply below_alloc | apply pw_below_drewN | apply below_drew1) | exact HB.out)))); (case aL => have := LMc17.out; omega); intro v112 w20 ho hb hg hat; rw [← Ny111.out] at ho; have n0_ := Aside0.mk (Kd.R_after (ok := (fun _ => True)) (by (with_reducible repeat (first | apply Kd.R_alloc | apply Kd.R_drewN | apply Kd.R_drew)); exact Kd.R_mono HO_5.out (fun _ hk => ⟨trivial, hk⟩)) hg hat); have n1_ := Aside0.mk (hb); have n2_ := Aside0.mk (ho); clear HO_5; clear HB; clear HO_4; have HO_5 := n0_; have HB := n1_; have HO113 := n2_; clear n0_ n1_ n2_; clear ho hb hg hat) | ((with_reducible refine gate_builtin (b := .append) (xs := #[.tmp 56, .tmp 58]) rfl ?_); at_builtin; refine Kd.R_append (Kd.int .u16) (w0 := w) w.heap.size rfl (.tmp 56) (.tmp 58) 24 36 (.int .u16 0) 2 rfl Try.underlying24 info36 rfl (by decide) (by omega) u5 x5_1 x8_2 [.int .u16 x8_2] (fun k_ => some k_ ≠ (v112 : Value).ownBlock) (fun _ => False) rfl rfl ?aP (fun _ hk => hk.elim) ?aF ?aO ?aB ?aS ?aL ?_; (case aP => exact rfl); (case aB => exact (by repeat (first | (with_reducible first | exact HB.out | apply below_alloc | apply pw_below_drewN | apply below_drew1) | exact HB.out))); (case aF => exact (fun k_ hk => Kd.fresh' (Kd.R_lt (by (with_reducible repeat (first | apply Kd.R_alloc | apply Kd.R_drewN | apply Kd.R_drew)); exact HO113.out)) k_ hk)); (case aO => exact (by (with_reducible repeat (first | apply Kd.R_alloc | apply Kd.R_drewN | apply Kd.R_drew)); exact Kd.R_mono HO_5.out (fun _ hk => hk.2))); (case aS => exact (below_size (by repeat (first | (with_reducible first | exact HB.out | apply below_alloc | apply pw_below_drewN | apply below_drew1) | exact HB.out)))); (case aL => have := LMc18.out; omega); intro v115 w21 ho hb hg hat; rw [← Ny114.out] at ho; have n0_ := Aside0.mk (Kd.R_after (ok := (fun _ => True)) (by (with_reducible repeat (first | apply Kd.R_alloc | apply Kd.R_drewN | apply Kd.R_drew)); exact Kd.R_mono HO113.out (fun _ hk => ⟨trivial, hk⟩)) hg hat); have n1_ := Aside0.mk (hb); have n2_ := Aside0.mk (ho); clear HO113; clear HB; clear HO_5; have HO113 := n0_; have HB := n1_; have HO116 := n2_; clear n0_ n1_ n2_; clear ho hb hg hat; obtain ⟨Ao22, co22, eo22⟩ := Kd.R_slice HO113.out; subst eo22)))
                    go_loopg [11] k2 (fun kq v11 w' => ∃ (x4_3 : List Int) (x5_3 : List Int) (x11_3 : Int), v11 = .int .i64 x11_3 ∧ Aside0 (spec_l01Half.l2 kq a0 x4_3 x5_3 0 x7_1 x11_3 = some (r1, r2)) ∧ Aside0 (kq ≤ k2) ∧ Aside0 (Kd.R (Kd.int .u16) 36 w' w.heap.size (fun k_ => some k_ ≠ (v115 : Value).ownBlock) (.slice Ao22 y111.length co22) x4_3) ∧ Aside0 (Kd.R (Kd.int .u16) 36 w' w.heap.size (fun k_ => some k_ ≠ ((.slice Ao22 y111.length co22) : Value).ownBlock) v115 x5_3) ∧ Aside0 (Below w.heap.size w w'))
                    case atStart => exact ⟨(y111), (y114), (wrap64 ((y111.length : Int) - 1)), (by first | rfl | (simp; done) | (simp [*]; done)), H', ⟨Nat.le_refl _⟩, ⟨by (with_reducible repeat (first | apply Kd.R_alloc | apply Kd.R_drewN | apply Kd.R_drew)); exact Kd.R_mono HO113.out (fun _ hk => hk.2)⟩, ⟨by (with_reducible repeat (first | apply Kd.R_alloc | apply Kd.R_drewN | apply Kd.R_drew)); exact HO116.out⟩, ⟨by repeat (first | (with_reducible first | exact HB.out | apply below_alloc | apply pw_below_drewN | apply below_drew1) | exact HB.out)⟩⟩
                    case round =>
                      clear H'
                      try clear c1
                      try clear p1
                      try clear q1
                      try clear hx1
                      try clear p2
                      try clear c6
                      try clear c6b0
                      try clear p6
                      try clear c7
                      try clear c7b0
                      try clear c7b1
                      try clear c9
                      try clear c10
                      try clear c10b0
                      try clear p10
                      try clear q10
                      try clear hx10
                      try clear c11
                      try clear c11b0
                      try clear p11
                      try clear q11
                      try clear hx11
                      try clear c12
                      try clear c12b0
                      try clear c13
                      try clear c13b0
                      try clear c17
                      try clear c18
                      try clear hx108_0
                      try clear hx109_0
                      try clear hx110_0
                      try clear p108
                      try clear p109
                      try clear p110
                      try clear p2
                      try clear q108
                      try clear q109
                      try clear q110
                      obtain ⟨x4_3, x5_3, x11_3, rfl, HA, HK3, HO_4, HO_5, HB⟩ := hrel
                      have hl4_3 := (Kd.R_reads' HO_4.out).1
                      rw [hl4_3] at HO_4
                      (try simp only [hl4_3])
                      (try simp only [hl4_3] at HO_5)
                      cases gk with
                      | zero => exact absurd HA.out (by simp [spec_l01Half.l2])
                      | succ k3 =>
                        have H := HA.out
                        clear HA
                        simp only [spec_l01Half.l2] at H
                        by_cases c23 : x11_3 > 0
                        · rw [if_pos c23] at H
                          have c23b0 : decide (0 < x11_3) = true := decide_eq_true c23
                          clear c23
                          by_cases c24 : 0 ≤ x11_3
                          · rw [if_pos c24] at H
                            have c24b0 : decide (0 ≤ x11_3) = true := decide_eq_true c24
                            clear c24
                            by_cases c25 : x11_3 < (x4_3.length : Int)
                            · rw [if_pos c25] at H
                              have c25b0 : decide (x11_3 < (x4_3.length : Int)) = true := decide_eq_true c25
                              clear c25
                              obtain ⟨ji26, hji26⟩ : ∃ j_ : Int, (wrap64 (x11_3 - 1)) = j_ := ⟨_, rfl⟩
                              replace H : (if 0 ≤ (ji26) then (if (ji26) < (x4_3.length : Int) then (if (rd x4_3 x11_3) > (rd x4_3 (ji26)) then (if x11_3 < (x5_3.length : Int) then (if (ji26) < (x5_3.length : Int) then (spec_l01Half.l2 k3 a0 ((x4_3.set (x11_3 : Int).toNat (rd x4_3 (ji26))).set ((ji26) : Int).toNat (rd x4_3 x11_3)) ((x5_3.set (x11_3 : Int).toNat (rd x5_3 (ji26))).set ((ji26) : Int).toNat (rd x5_3 x11_3)) 0 x7_1 ji26) else (none)) else (none)) else (spec_l01Half.l0 k3 a0 x4_3 x5_3 0 (IntKind.u64.wrap (x7_1 + 1)))) else (none)) else (none)) = some (r1, r2) := by first | (rw [hji26] at H; exact H) | (simp only [hji26] at H ⊢; exact H)
                              have hji26w : (IntKind.i64.wrap (x11_3 - 1)) = ji26 := (i64_w _).trans hji26
                              by_cases c27 : 0 ≤ (ji26)
                              · rw [if_pos c27] at H
                                have c27b0 : decide (0 ≤ (ji26)) = true := decide_eq_true c27
                                clear c27
                                by_cases c28 : (ji26) < (x4_3.length : Int)
                                · rw [if_pos c28] at H
                                  have c28b0 : decide ((ji26) < (x4_3.length : Int)) = true := decide_eq_true c28
                                  clear c28
                                  by_cases c29 : (rd x4_3 x11_3) > (rd x4_3 (ji26))
                                  · rw [if_pos c29] at H
                                    have c29b0 : decide ((rd x4_3 (ji26)) < (rd x4_3 x11_3)) = true := decide_eq_true c29
                                    clear c29
                                    obtain ⟨y121, hy121⟩ : ∃ y_ : List Int, y_ = (x4_3.set (x11_3 : Int).toNat (rd x4_3 (ji26))) := ⟨_, rfl⟩
                                    replace H : (if x11_3 < (x5_3.length : Int) then (if (ji26) < (x5_3.length : Int) then (spec_l01Half.l2 k3 a0 (y121.set ((ji26) : Int).toNat (rd x4_3 x11_3)) ((x5_3.set (x11_3 : Int).toNat (rd x5_3 (ji26))).set ((ji26) : Int).toNat (rd x5_3 x11_3)) 0 x7_1 ji26) else (none)) else (none)) = some (r1, r2) := by first | (rw [hy121]; with_reducible exact H) | (have H2_ := (Option.bind_some _ _).symm.trans H; rw [hy121]; with_reducible exact H2_) | (have H2_ := (Option.bind_some _ _).symm.trans H; with_reducible exact H2_) | with_reducible exact H | (rw [hy121]; exact H) | exact H
                                    have Ny121 := Aside0.mk hy121
                                    clear hy121
                                    obtain ⟨y122, hy122⟩ : ∃ y_ : List Int, y_ = (y121.set ((ji26) : Int).toNat (rd x4_3 x11_3)) := ⟨_, rfl⟩
                                    replace H : (if x11_3 < (x5_3.length : Int) then (if (ji26) < (x5_3.length : Int) then (spec_l01Half.l2 k3 a0 y122 ((x5_3.set (x11_3 : Int).toNat (rd x5_3 (ji26))).set ((ji26) : Int).toNat (rd x5_3 x11_3)) 0 x7_1 ji26) else (none)) else (none)) = some (r1, r2) := by first | (rw [hy122]; with_reducible exact H) | (have H2_ := (Option.bind_some _ _).symm.trans H; rw [hy122]; with_reducible exact H2_) | (have H2_ := (Option.bind_some _ _).symm.trans H; with_reducible exact H2_) | with_reducible exact H | (rw [hy122]; exact H) | exact H
                                    have Ny122 := Aside0.mk hy122
                                    clear hy122
                                    by_cases c32 : x11_3 < (x5_3.length : Int)
                                    · rw [if_pos c32] at H
                                      have c32b0 : decide (x11_3 < (x5_3.length : Int)) = true := decide_eq_true c32
                                      clear c32
                                      by_cases c33 : (ji26) < (x5_3.length : Int)
                                      · rw [if_pos c33] at H
                                        have c33b0 : decide ((ji26) < (x5_3.length : Int)) = true := decide_eq_true c33
                                        clear c33
                                        obtain ⟨y125, hy125⟩ : ∃ y_ : List Int, y_ = (x5_3.set (x11_3 : Int).toNat (rd x5_3 (ji26))) := ⟨_, rfl⟩
                                        replace H : (spec_l01Half.l2 k3 a0 y122 (y125.set ((ji26) : Int).toNat (rd x5_3 x11_3)) 0 x7_1 ji26) = some (r1, r2) := by first | (rw [hy125]; with_reducible exact H) | (have H2_ := (Option.bind_some _ _).symm.trans H; rw [hy125]; with_reducible exact H2_) | (have H2_ := (Option.bind_some _ _).symm.trans H; with_reducible exact H2_) | with_reducible exact H | (rw [hy125]; exact H) | exact H
                                        have Ny125 := Aside0.mk hy125
                                        clear hy125
                                        obtain ⟨y126, hy126⟩ : ∃ y_ : List Int, y_ = (y125.set ((ji26) : Int).toNat (rd x5_3 x11_3)) := ⟨_, rfl⟩
                                        replace H : (spec_l01Half.l2 k3 a0 y122 y126 0 x7_1 ji26) = some (r1, r2) := by first | (rw [hy126]; with_reducible exact H) | (have H2_ := (Option.bind_some _ _).symm.trans H; rw [hy126]; with_reducible exact H2_) | (have H2_ := (Option.bind_some _ _).symm.trans H; with_reducible exact H2_) | with_reducible exact H | (rw [hy126]; exact H) | exact H
                                        have Ny126 := Aside0.mk hy126
                                        clear hy126
                                        have H' := Aside0.mk H
                                        clear H
                                        have p117 : 0 ≤ (x11_3 : Int) := of_decide_eq_true (by first | (with_reducible assumption) | assumption)
                                        have q117 : x11_3 < (x4_3.length : Int) := of_decide_eq_true (by first | (with_reducible assumption) | assumption)
                                        obtain ⟨ad117, e117, hx117_0⟩ := Kd.at_int (Kd.R_reads' HO_4.out).2.2 x11_3 p117 q117
                                        cases e117
                                        replace p117 := eq_true p117
                                        replace q117 := eq_true q117
                                        have p118 : 0 ≤ ((ji26) : Int) := of_decide_eq_true (by first | (with_reducible assumption) | assumption)
                                        have q118 : (ji26) < (x4_3.length : Int) := of_decide_eq_true (by first | (with_reducible assumption) | assumption)
                                        obtain ⟨ad118, e118, hx118_0⟩ := Kd.at_int (Kd.R_reads' HO_4.out).2.2 (ji26) p118 q118
                                        obtain rfl : ad117 = ad118 := (by injection e118)
                                        replace p118 := eq_true p118
                                        replace q118 := eq_true q118
                                        have p119 : 0 ≤ (x11_3 : Int) := of_decide_eq_true (by first | (with_reducible assumption) | assumption)
                                        have q119 : x11_3 < (x4_3.length : Int) := of_decide_eq_true (by first | (with_reducible assumption) | assumption)
                                        obtain ⟨ad119, e119, hx119_0⟩ := Kd.at_int (Kd.R_reads' HO_4.out).2.2 x11_3 p119 q119
                                        obtain rfl : ad117 = ad119 := (by injection e119)
                                        replace p119 := eq_true p119
                                        replace q119 := eq_true q119
                                        have p120 : 0 ≤ ((ji26) : Int) := of_decide_eq_true (by first | (with_reducible assumption) | assumption)
                                        have q120 : (ji26) < (x4_3.length : Int) := of_decide_eq_true (by first | (with_reducible assumption) | assumption)
                                        obtain ⟨ad120, e120, hx120_0⟩ := Kd.at_int (Kd.R_reads' HO_4.out).2.2 (ji26) p120 q120
                                        obtain rfl : ad117 = ad120 := (by injection e120)
                                        replace p120 := eq_true p120
                                        replace q120 := eq_true q120
                                        have p30 : 0 ≤ (x11_3 : Int) := of_decide_eq_true (by first | (with_reducible assumption) | assumption)
                                        have q30 : (x11_3 : Int) < ((x4_3.length : Int) : Int) := of_decide_eq_true (by first | (with_reducible assumption) | assumption)
                                        obtain ⟨go30, co30, eo30, gb30, gl30, cl30, HG30⟩ := Kd.R_form HO_4.out (by omega)
                                        (first | cases eo30 | (injection eo30 with ea_ en_ ec_; (first | subst ea_ | (injection ea_ with ea_; subst ea_)); subst ec_; clear en_))
                                        have GB30 := Aside0.mk gb30
                                        have GG30 := Aside0.mk HG30
                                        clear gb30 gl30 HG30
                                        (first | simp only [add_plain] at hx117_0 | skip)
                                        (first | simp only [add_plain] at hx118_0 | skip)
                                        (first | simp only [add_plain] at hx119_0 | skip)
                                        (first | simp only [add_plain] at hx120_0 | skip)
                                        obtain ⟨hx30_0, hf30_0⟩ := Kd.R_celln 0 HO_4.out (x11_3 : Int) p30 q30
                                        replace p30 := eq_true p30
                                        replace q30 := eq_true q30
                                        have HP36 := Kd.R_putg HO_4.out (x11_3 : Int) (rd x4_3 (ji26))
                                        go_wp2_with (first | ((with_reducible refine gate_store (t := 36) (p := 90) rfl ?_); (try (rw [drewN_self wr]; generalize hq_ : World.drewN wr _ = wr; have n0_ := Aside0.mk (Kd.R_at hq_ HO_4.out); have n1_ := Aside0.mk (Kd.R_at hq_ HO_5.out); have n2_ := Aside0.mk (below_at hq_ HB.out); clear hq_ HO_4 HO_5 HB; have HO_4 := n0_; have HO_5 := n1_; have HB := n2_; clear n0_ n1_ n2_; (try (have HP36 := Kd.R_putg HO_4.out (x11_3 : Int) (rd x4_3 (ji26)))); (try (obtain ⟨hcellx_, hcellf_⟩ := Kd.R_celln 0 HO_4.out (x11_3 : Int) (of_decide_eq_true (by first | (with_reducible assumption) | assumption)) (of_decide_eq_true (by first | (with_reducible assumption) | assumption)))))); refine store_event (t := 36) (p := 90) (v := ?vo_w37) (w1 := (wr.setCell ⟨go30, (x11_3 : Int).toNat, none⟩ (.int .u16 (rd x4_3 (ji26))))) ?hg ?ho ?hn ?hr ?_; (case ho => rfl); (case hg => rfl); (case hn => rfl); (case hr => first | (go_simp; done) | (go_simp; rfl)); intro w37 hw; have hg : wr.grownBy w37 (some go30) := (by rw [hw]; exact HP36.2); have hp_ : Kd.R (Kd.int .u16) 36 w37 w.heap.size (fun k_ => some k_ ≠ (v115 : Value).ownBlock) (.slice (some ⟨go30, 0, none⟩) x4_3.length co22) y121 := (by rw [hw, Ny121.out]; exact HP36.1); clear HP36; have n0_ := Aside0.mk (hp_); have n1_ := Aside0.mk (Kd.R_after (v := (.slice (some ⟨go30, 0, none⟩) x4_3.length co22)) (v1 := (.slice (some ⟨go30, 0, none⟩) x4_3.length co22)) (ok := (fun _ => True)) (by (with_reducible repeat (first | apply Kd.R_alloc | apply Kd.R_drewN | apply Kd.R_drew)); exact Kd.R_mono HO_5.out (fun _ hk => ⟨trivial, hk⟩)) hg (.inl rfl)); have n2_ := Aside0.mk ((by rw [hw]; exact below_set (HB.out) GB30.out : Below w.heap.size w w37)); clear HO_4; clear HO_5; clear HB; have HO_4 := n0_; have HO_5 := n1_; have HB := n2_; clear n0_ n1_ n2_; clear hg hw hp_; have p31 : 0 ≤ ((ji26) : Int) := of_decide_eq_true (by first | (with_reducible assumption) | assumption); have q31 : ((ji26) : Int) < ((x4_3.length : Int) : Int) := of_decide_eq_true (by first | (with_reducible assumption) | assumption); obtain ⟨hx31_0, hf31_0⟩ := Kd.R_celln 0 HO_4.out ((ji26) : Int) p31 q31; replace p31 := eq_true p31; replace q31 := eq_true q31; obtain ⟨hy38_, hz38_⟩ := Kd.R_celln 0 HO_4.out ((ji26) : Int) (of_decide_eq_true (by first | (with_reducible assumption) | assumption)) (of_decide_eq_true (by first | (with_reducible assumption) | assumption)); have HP38 := Kd.R_putg HO_4.out ((ji26) : Int) (rd x4_3 x11_3)) | ((with_reducible refine gate_store (t := 36) (p := 95) rfl ?_); (try (rw [drewN_self w37]; generalize hq_ : World.drewN w37 _ = w37; have n0_ := Aside0.mk (Kd.R_at hq_ HO_4.out); have n1_ := Aside0.mk (Kd.R_at hq_ HO_5.out); have n2_ := Aside0.mk (below_at hq_ HB.out); clear hq_ HO_4 HO_5 HB; have HO_4 := n0_; have HO_5 := n1_; have HB := n2_; clear n0_ n1_ n2_; (try (obtain ⟨hy38_, hz38_⟩ := Kd.R_celln 0 HO_4.out ((ji26) : Int) (of_decide_eq_true (by first | (with_reducible assumption) | assumption)) (of_decide_eq_true (by first | (with_reducible assumption) | assumption)))); (try (have HP38 := Kd.R_putg HO_4.out ((ji26) : Int) (rd x4_3 x11_3))))); refine store_event (t := 36) (p := 95) (v := ?vo_w39) (w1 := (w37.setCell ⟨go30, ((ji26) : Int).toNat, none⟩ (.int .u16 (rd x4_3 x11_3)))) ?hg ?ho ?hn ?hr ?_; (case ho => rfl); (case hg => rfl); (case hn => rfl); (case hr => first | (go_simp; done) | (go_simp; rfl)); intro w39 hw; have hg : w37.grownBy w39 (some go30) := (by rw [hw]; exact HP38.2); have hp_ : Kd.R (Kd.int .u16) 36 w39 w.heap.size (fun k_ => some k_ ≠ (v115 : Value).ownBlock) (.slice (some ⟨go30, 0, none⟩) x4_3.length co22) y122 := (by rw [hw, Ny122.out]; exact HP38.1); clear HP38; have n0_ := Aside0.mk (hp_); have n1_ := Aside0.mk (Kd.R_after (v := (.slice (some ⟨go30, 0, none⟩) x4_3.length co22)) (v1 := (.slice (some ⟨go30, 0, none⟩) x4_3.length co22)) (ok := (fun _ => True)) (by (with_reducible repeat (first | apply Kd.R_alloc | apply Kd.R_drewN | apply Kd.R_drew)); exact HO_5.out) hg (.inl rfl)); have n2_ := Aside0.mk ((by rw [hw]; exact below_set (HB.out) GB30.out : Below w.heap.size w w39)); clear HO_4; clear HO_5; clear HB; have HO_4 := n0_; have HO_5 := n1_; have HB := n2_; clear n0_ n1_ n2_; clear hg hw hp_; obtain ⟨Ao40, co40, eo40⟩ := Kd.R_slice HO_5.out; subst eo40; have p123 : 0 ≤ (x11_3 : Int) := of_decide_eq_true (by first | (with_reducible assumption) | assumption); have q123 : x11_3 < (x5_3.length : Int) := of_decide_eq_true (by first | (with_reducible assumption) | assumption); obtain ⟨ad123, e123, hx123_0⟩ := Kd.at_int (Kd.R_reads' HO_5.out).2.2 x11_3 p123 q123; cases e123; replace p123 := eq_true p123; replace q123 := eq_true q123; have p124 : 0 ≤ ((ji26) : Int) := of_decide_eq_true (by first | (with_reducible assumption) | assumption); have q124 : (ji26) < (x5_3.length : Int) := of_decide_eq_true (by first | (with_reducible assumption) | assumption); obtain ⟨ad124, e124, hx124_0⟩ := Kd.at_int (Kd.R_reads' HO_5.out).2.2 (ji26) p124 q124; obtain rfl : ad123 = ad124 := (by injection e124); replace p124 := eq_true p124; replace q124 := eq_true q124; have p34 : 0 ≤ (x11_3 : Int) := of_decide_eq_true (by first | (with_reducible assumption) | assumption); have q34 : (x11_3 : Int) < ((x5_3.length : Int) : Int) := of_decide_eq_true (by first | (with_reducible assumption) | assumption); obtain ⟨go34, co34, eo34, gb34, gl34, cl34, HG34⟩ := Kd.R_form HO_5.out (by omega); (first | cases eo34 | (injection eo34 with ea_ en_ ec_; (first | subst ea_ | (injection ea_ with ea_; subst ea_)); subst ec_; clear en_)); have GB34 := Aside0.mk gb34; have GG34 := Aside0.mk HG34; clear gb34 gl34 HG34; (first | simp only [add_plain] at hx123_0 | skip); (first | simp only [add_plain] at hx124_0 | skip); obtain ⟨hx34_0, hf34_0⟩ := Kd.R_celln 0 HO_5.out (x11_3 : Int) p34 q34; replace p34 := eq_true p34; replace q34 := eq_true q34; have n_ := Aside0.mk (Kd.R_mono (ok' := (fun k_ => some k_ ≠ (.slice (some ⟨go30, 0, none⟩) x4_3.length co22 : Value).ownBlock)) HO_5.out (fun k_ hk => hk.2)); clear HO_5; have HO_5 := n_; clear n_; obtain ⟨hy41_, hz41_⟩ := Kd.R_celln 0 HO_5.out (x11_3 : Int) (of_decide_eq_true (by first | (with_reducible assumption) | assumption)) (of_decide_eq_true (by first | (with_reducible assumption) | assumption)); have HP41 := Kd.R_putg HO_5.out (x11_3 : Int) (rd x5_3 (ji26))) | ((with_reducible refine gate_store (t := 36) (p := 107) rfl ?_); (try (rw [drewN_self w39]; generalize hq_ : World.drewN w39 _ = w39; have n0_ := Aside0.mk (Kd.R_at hq_ HO_4.out); have n1_ := Aside0.mk (Kd.R_at hq_ HO_5.out); have n2_ := Aside0.mk (below_at hq_ HB.out); clear hq_ HO_4 HO_5 HB; have HO_4 := n0_; have HO_5 := n1_; have HB := n2_; clear n0_ n1_ n2_; (try (have n_ := Aside0.mk (Kd.R_mono (ok' := (fun k_ => some k_ ≠ (.slice (some ⟨go30, 0, none⟩) x4_3.length co22 : Value).ownBlock)) HO_5.out (fun k_ hk => hk.2)); clear HO_5; have HO_5 := n_; clear n_)); (try (obtain ⟨hy41_, hz41_⟩ := Kd.R_celln 0 HO_5.out (x11_3 : Int) (of_decide_eq_true (by first | (with_reducible assumption) | assumption)) (of_decide_eq_true (by first | (with_reducible assumption) | assumption)))); (try (have HP41 := Kd.R_putg HO_5.out (x11_3 : Int) (rd x5_3 (ji26)))); (try (obtain ⟨hcellx_, hcellf_⟩ := Kd.R_celln 0 HO_5.out (x11_3 : Int) (of_decide_eq_true (by first | (with_reducible assumption) | assumption)) (of_decide_eq_true (by first | (with_reducible assumption) | assumption)))))); refine store_event (t := 36) (p := 107) (v := ?vo_w42) (w1 := (w39.setCell ⟨go34, (x11_3 : Int).toNat, none⟩ (.int .u16 (rd x5_3 (ji26))))) ?hg ?ho ?hn ?hr ?_; (case ho => rfl); (case hg => rfl); (case hn => rfl); (case hr => first | (go_simp; done) | (go_simp; rfl)); intro w42 hw; have hg : w39.grownBy w42 (some go34) := (by rw [hw]; exact HP41.2); have hp_ : Kd.R (Kd.int .u16) 36 w42 w.heap.size (fun k_ => some k_ ≠ (.slice (some ⟨go30, 0, none⟩) x4_3.length co22 : Value).ownBlock) (.slice (some ⟨go34, 0, none⟩) x5_3.length co40) y125 := (by rw [hw, Ny125.out]; exact HP41.1); clear HP41; have n0_ := Aside0.mk (Kd.R_after (v := (.slice (some ⟨go34, 0, none⟩) x5_3.length co40)) (v1 := (.slice (some ⟨go34, 0, none⟩) x5_3.length co40)) (ok := (fun _ => True)) (by (with_reducible repeat (first | apply Kd.R_alloc | apply Kd.R_drewN | apply Kd.R_drew)); exact Kd.R_mono HO_4.out (fun _ hk => ⟨trivial, hk⟩)) hg (.inl rfl)); have n1_ := Aside0.mk (hp_); have n2_ := Aside0.mk ((by rw [hw]; exact below_set (HB.out) GB34.out : Below w.heap.size w w42)); clear HO_4; clear HO_5; clear HB; have HO_4 := n0_; have HO_5 := n1_; have HB := n2_; clear n0_ n1_ n2_; clear hg hw hp_; have p35 : 0 ≤ ((ji26) : Int) := of_decide_eq_true (by first | (with_reducible assumption) | assumption); have q35 : ((ji26) : Int) < ((x5_3.length : Int) : Int) := of_decide_eq_true (by first | (with_reducible assumption) | assumption); obtain ⟨hx35_0, hf35_0⟩ := Kd.R_celln 0 HO_5.out ((ji26) : Int) p35 q35; replace p35 := eq_true p35; replace q35 := eq_true q35; obtain ⟨hy43_, hz43_⟩ := Kd.R_celln 0 HO_5.out ((ji26) : Int) (of_decide_eq_true (by first | (with_reducible assumption) | assumption)) (of_decide_eq_true (by first | (with_reducible assumption) | assumption)); have HP43 := Kd.R_putg HO_5.out ((ji26) : Int) (rd x5_3 x11_3)) | ((with_reducible refine gate_store (t := 36) (p := 112) rfl ?_); (try (rw [drewN_self w42]; generalize hq_ : World.drewN w42 _ = w42; have n0_ := Aside0.mk (Kd.R_at hq_ HO_4.out); have n1_ := Aside0.mk (Kd.R_at hq_ HO_5.out); have n2_ := Aside0.mk (below_at hq_ HB.out); clear hq_ HO_4 HO_5 HB; have HO_4 := n0_; have HO_5 := n1_; have HB := n2_; clear n0_ n1_ n2_; (try (obtain ⟨hy43_, hz43_⟩ := Kd.R_celln 0 HO_5.out ((ji26) : Int) (of_decide_eq_true (by first | (with_reducible assumption) | assumption)) (of_decide_eq_true (by first | (with_reducible assumption) | assumption)))); (try (have HP43 := Kd.R_putg HO_5.out ((ji26) : Int) (rd x5_3 x11_3))))); refine store_event (t := 36) (p := 112) (v := ?vo_w44) (w1 := (w42.setCell ⟨go34, ((ji26) : Int).toNat, none⟩ (.int .u16 (rd x5_3 x11_3)))) ?hg ?ho ?hn ?hr ?_; (case ho => rfl); (case hg => rfl); (case hn => rfl); (case hr => first | (go_simp; done) | (go_simp; rfl)); intro w44 hw; have hg : w42.grownBy w44 (some go34) := (by rw [hw]; exact HP43.2); have hp_ : Kd.R (Kd.int .u16) 36 w44 w.heap.size (fun k_ => some k_ ≠ (.slice (some ⟨go30, 0, none⟩) x4_3.length co22 : Value).ownBlock) (.slice (some ⟨go34, 0, none⟩) x5_3.length co40) y126 := (by rw [hw, Ny126.out]; exact HP43.1); clear HP43; have n0_ := Aside0.mk (Kd.R_after (v := (.slice (some ⟨go34, 0, none⟩) x5_3.length co40)) (v1 := (.slice (some ⟨go34, 0, none⟩) x5_3.length co40)) (ok := (fun _ => True)) (by (with_reducible repeat (first | apply Kd.R_alloc | apply Kd.R_drewN | apply Kd.R_drew)); exact HO_4.out) hg (.inl rfl)); have n1_ := Aside0.mk (hp_); have n2_ := Aside0.mk ((by rw [hw]; exact below_set (HB.out) GB34.out : Below w.heap.size w w44)); clear HO_4; clear HO_5; clear HB; have HO_4 := n0_; have HO_5 := n1_; have HB := n2_; clear n0_ n1_ n2_; clear hg hw hp_))
                                        repeat (go_quiet (first | ((with_reducible refine gate_store (t := 36) (p := 90) rfl ?_); (try (rw [drewN_self wr]; generalize hq_ : World.drewN wr _ = wr; have n0_ := Aside0.mk (Kd.R_at hq_ HO_4.out); have n1_ := Aside0.mk (Kd.R_at hq_ HO_5.out); have n2_ := Aside0.mk (below_at hq_ HB.out); clear hq_ HO_4 HO_5 HB; have HO_4 := n0_; have HO_5 := n1_; have HB := n2_; clear n0_ n1_ n2_; (try (have HP36 := Kd.R_putg HO_4.out (x11_3 : Int) (rd x4_3 (ji26)))); (try (obtain ⟨hcellx_, hcellf_⟩ := Kd.R_celln 0 HO_4.out (x11_3 : Int) (of_decide_eq_true (by first | (with_reducible assumption) | assumption)) (of_decide_eq_true (by first | (with_reducible assumption) | assumption)))))); refine store_event (t := 36) (p := 90) (v := ?vo_w37) (w1 := (wr.setCell ⟨go30, (x11_3 : Int).toNat, none⟩ (.int .u16 (rd x4_3 (ji26))))) ?hg ?ho ?hn ?hr ?_; (case ho => rfl); (case hg => rfl); (case hn => rfl); (case hr => first | (go_simp; done) | (go_simp; rfl)); intro w37 hw; have hg : wr.grownBy w37 (some go30) := (by rw [hw]; exact HP36.2); have hp_ : Kd.R (Kd.int .u16) 36 w37 w.heap.size (fun k_ => some k_ ≠ (v115 : Value).ownBlock) (.slice (some ⟨go30, 0, none⟩) x4_3.length co22) y121 := (by rw [hw, Ny121.out]; exact HP36.1); clear HP36; have n0_ := Aside0.mk (hp_); have n1_ := Aside0.mk (Kd.R_after (v := (.slice (some ⟨go30, 0, none⟩) x4_3.length co22)) (v1 := (.slice (some ⟨go30, 0, none⟩) x4_3.length co22)) (ok := (fun _ => True)) (by (with_reducible repeat (first | apply Kd.R_alloc | apply Kd.R_drewN | apply Kd.R_drew)); exact Kd.R_mono HO_5.out (fun _ hk => ⟨trivial, hk⟩)) hg (.inl rfl)); have n2_ := Aside0.mk ((by rw [hw]; exact below_set (HB.out) GB30.out : Below w.heap.size w w37)); clear HO_4; clear HO_5; clear HB; have HO_4 := n0_; have HO_5 := n1_; have HB := n2_; clear n0_ n1_ n2_; clear hg hw hp_; have p31 : 0 ≤ ((ji26) : Int) := of_decide_eq_true (by first | (with_reducible assumption) | assumption); have q31 : ((ji26) : Int) < ((x4_3.length : Int) : Int) := of_decide_eq_true (by first | (with_reducible assumption) | assumption); obtain ⟨hx31_0, hf31_0⟩ := Kd.R_celln 0 HO_4.out ((ji26) : Int) p31 q31; replace p31 := eq_true p31; replace q31 := eq_true q31; obtain ⟨hy38_, hz38_⟩ := Kd.R_celln 0 HO_4.out ((ji26) : Int) (of_decide_eq_true (by first | (with_reducible assumption) | assumption)) (of_decide_eq_true (by first | (with_reducible assumption) | assumption)); have HP38 := Kd.R_putg HO_4.out ((ji26) : Int) (rd x4_3 x11_3)) | ((with_reducible refine gate_store (t := 36) (p := 95) rfl ?_); (try (rw [drewN_self w37]; generalize hq_ : World.drewN w37 _ = w37; have n0_ := Aside0.mk (Kd.R_at hq_ HO_4.out); have n1_ := Aside0.mk (Kd.R_at hq_ HO_5.out); have n2_ := Aside0.mk (below_at hq_ HB.out); clear hq_ HO_4 HO_5 HB; have HO_4 := n0_; have HO_5 := n1_; have HB := n2_; clear n0_ n1_ n2_; (try (obtain ⟨hy38_, hz38_⟩ := Kd.R_celln 0 HO_4.out ((ji26) : Int) (of_decide_eq_true (by first | (with_reducible assumption) | assumption)) (of_decide_eq_true (by first | (with_reducible assumption) | assumption)))); (try (have HP38 := Kd.R_putg HO_4.out ((ji26) : Int) (rd x4_3 x11_3))))); refine store_event (t := 36) (p := 95) (v := ?vo_w39) (w1 := (w37.setCell ⟨go30, ((ji26) : Int).toNat, none⟩ (.int .u16 (rd x4_3 x11_3)))) ?hg ?ho ?hn ?hr ?_; (case ho => rfl); (case hg => rfl); (case hn => rfl); (case hr => first | (go_simp; done) | (go_simp; rfl)); intro w39 hw; have hg : w37.grownBy w39 (some go30) := (by rw [hw]; exact HP38.2); have hp_ : Kd.R (Kd.int .u16) 36 w39 w.heap.size (fun k_ => some k_ ≠ (v115 : Value).ownBlock) (.slice (some ⟨go30, 0, none⟩) x4_3.length co22) y122 := (by rw [hw, Ny122.out]; exact HP38.1); clear HP38; have n0_ := Aside0.mk (hp_); have n1_ := Aside0.mk (Kd.R_after (v := (.slice (some ⟨go30, 0, none⟩) x4_3.length co22)) (v1 := (.slice (some ⟨go30, 0, none⟩) x4_3.length co22)) (ok := (fun _ => True)) (by (with_reducible repeat (first | apply Kd.R_alloc | apply Kd.R_drewN | apply Kd.R_drew)); exact HO_5.out) hg (.inl rfl)); have n2_ := Aside0.mk ((by rw [hw]; exact below_set (HB.out) GB30.out : Below w.heap.size w w39)); clear HO_4; clear HO_5; clear HB; have HO_4 := n0_; have HO_5 := n1_; have HB := n2_; clear n0_ n1_ n2_; clear hg hw hp_; obtain ⟨Ao40, co40, eo40⟩ := Kd.R_slice HO_5.out; subst eo40; have p123 : 0 ≤ (x11_3 : Int) := of_decide_eq_true (by first | (with_reducible assumption) | assumption); have q123 : x11_3 < (x5_3.length : Int) := of_decide_eq_true (by first | (with_reducible assumption) | assumption); obtain ⟨ad123, e123, hx123_0⟩ := Kd.at_int (Kd.R_reads' HO_5.out).2.2 x11_3 p123 q123; cases e123; replace p123 := eq_true p123; replace q123 := eq_true q123; have p124 : 0 ≤ ((ji26) : Int) := of_decide_eq_true (by first | (with_reducible assumption) | assumption); have q124 : (ji26) < (x5_3.length : Int) := of_decide_eq_true (by first | (with_reducible assumption) | assumption); obtain ⟨ad124, e124, hx124_0⟩ := Kd.at_int (Kd.R_reads' HO_5.out).2.2 (ji26) p124 q124; obtain rfl : ad123 = ad124 := (by injection e124); replace p124 := eq_true p124; replace q124 := eq_true q124; have p34 : 0 ≤ (x11_3 : Int) := of_decide_eq_true (by first | (with_reducible assumption) | assumption); have q34 : (x11_3 : Int) < ((x5_3.length : Int) : Int) := of_decide_eq_true (by first | (with_reducible assumption) | assumption); obtain ⟨go34, co34, eo34, gb34, gl34, cl34, HG34⟩ := Kd.R_form HO_5.out (by omega); (first | cases eo34 | (injection eo34 with ea_ en_ ec_; (first | subst ea_ | (injection ea_ with ea_; subst ea_)); subst ec_; clear en_)); have GB34 := Aside0.mk gb34; have GG34 := Aside0.mk HG34; clear gb34 gl34 HG34; (first | simp only [add_plain] at hx123_0 | skip); (first | simp only [add_plain] at hx124_0 | skip); obtain ⟨hx34_0, hf34_0⟩ := Kd.R_celln 0 HO_5.out (x11_3 : Int) p34 q34; replace p34 := eq_true p34; replace q34 := eq_true q34; have n_ := Aside0.mk (Kd.R_mono (ok' := (fun k_ => some k_ ≠ (.slice (some ⟨go30, 0, none⟩) x4_3.length co22 : Value).ownBlock)) HO_5.out (fun k_ hk => hk.2)); clear HO_5; have HO_5 := n_; clear n_; obtain ⟨hy41_, hz41_⟩ := Kd.R_celln 0 HO_5.out (x11_3 : Int) (of_decide_eq_true (by first | (with_reducible assumption) | assumption)) (of_decide_eq_true (by first | (with_reducible assumption) | assumption)); have HP41 := Kd.R_putg HO_5.out (x11_3 : Int) (rd x5_3 (ji26))) | ((with_reducible refine gate_store (t := 36) (p := 107) rfl ?_); (try (rw [drewN_self w39]; generalize hq_ : World.drewN w39 _ = w39; have n0_ := Aside0.mk (Kd.R_at hq_ HO_4.out); have n1_ := Aside0.mk (Kd.R_at hq_ HO_5.out); have n2_ := Aside0.mk (below_at hq_ HB.out); clear hq_ HO_4 HO_5 HB; have HO_4 := n0_; have HO_5 := n1_; have HB := n2_; clear n0_ n1_ n2_; (try (have n_ := Aside0.mk (Kd.R_mono (ok' := (fun k_ => some k_ ≠ (.slice (some ⟨go30, 0, none⟩) x4_3.length co22 : Value).ownBlock)) HO_5.out (fun k_ hk => hk.2)); clear HO_5; have HO_5 := n_; clear n_)); (try (obtain ⟨hy41_, hz41_⟩ := Kd.R_celln 0 HO_5.out (x11_3 : Int) (of_decide_eq_true (by first | (with_reducible assumption) | assumption)) (of_decide_eq_true (by first | (with_reducible assumption) | assumption)))); (try (have HP41 := Kd.R_putg HO_5.out (x11_3 : Int) (rd x5_3 (ji26)))); (try (obtain ⟨hcellx_, hcellf_⟩ := Kd.R_celln 0 HO_5.out (x11_3 : Int) (of_decide_eq_true (by first | (with_reducible assumption) | assumption)) (of_decide_eq_true (by first | (with_reducible assumption) | assumption)))))); refine store_event (t := 36) (p := 107) (v := ?vo_w42) (w1 := (w39.setCell ⟨go34, (x11_3 : Int).toNat, none⟩ (.int .u16 (rd x5_3 (ji26))))) ?hg ?ho ?hn ?hr ?_; (case ho => rfl); (case hg => rfl); (case hn => rfl); (case hr => first | (go_simp; done) | (go_simp; rfl)); intro w42 hw; have hg : w39.grownBy w42 (some go34) := (by rw [hw]; exact HP41.2); have hp_ : Kd.R (Kd.int .u16) 36 w42 w.heap.size (fun k_ => some k_ ≠ (.slice (some ⟨go30, 0, none⟩) x4_3.length co22 : Value).ownBlock) (.slice (some ⟨go34, 0, none⟩) x5_3.length co40) y125 := (by rw [hw, Ny125.out]; exact HP41.1); clear HP41; have n0_ := Aside0.mk (Kd.R_after (v := (.slice (some ⟨go34, 0, none⟩) x5_3.length co40)) (v1 := (.slice (some ⟨go34, 0, none⟩) x5_3.length co40)) (ok := (fun _ => True)) (by (with_reducible repeat (first | apply Kd.R_alloc | apply Kd.R_drewN | apply Kd.R_drew)); exact Kd.R_mono HO_4.out (fun _ hk => ⟨trivial, hk⟩)) hg (.inl rfl)); have n1_ := Aside0.mk (hp_); have n2_ := Aside0.mk ((by rw [hw]; exact below_set (HB.out) GB34.out : Below w.heap.size w w42)); clear HO_4; clear HO_5; clear HB; have HO_4 := n0_; have HO_5 := n1_; have HB := n2_; clear n0_ n1_ n2_; clear hg hw hp_; have p35 : 0 ≤ ((ji26) : Int) := of_decide_eq_true (by first | (with_reducible assumption) | assumption); have q35 : ((ji26) : Int) < ((x5_3.length : Int) : Int) := of_decide_eq_true (by first | (with_reducible assumption) | assumption); obtain ⟨hx35_0, hf35_0⟩ := Kd.R_celln 0 HO_5.out ((ji26) : Int) p35 q35; replace p35 := eq_true p35; replace q35 := eq_true q35; obtain ⟨hy43_, hz43_⟩ := Kd.R_celln 0 HO_5.out ((ji26) : Int) (of_decide_eq_true (by first | (with_reducible assumption) | assumption)) (of_decide_eq_true (by first | (with_reducible assumption) | assumption)); have HP43 := Kd.R_putg HO_5.out ((ji26) : Int) (rd x5_3 x11_3)) | ((with_reducible refine gate_store (t := 36) (p := 112) rfl ?_); (try (rw [drewN_self w42]; generalize hq_ : World.drewN w42 _ = w42; have n0_ := Aside0.mk (Kd.R_at hq_ HO_4.out); have n1_ := Aside0.mk (Kd.R_at hq_ HO_5.out); have n2_ := Aside0.mk (below_at hq_ HB.out); clear hq_ HO_4 HO_5 HB; have HO_4 := n0_; have HO_5 := n1_; have HB := n2_; clear n0_ n1_ n2_; (try (obtain ⟨hy43_, hz43_⟩ := Kd.R_celln 0 HO_5.out ((ji26) : Int) (of_decide_eq_true (by first | (with_reducible assumption) | assumption)) (of_decide_eq_true (by first | (with_reducible assumption) | assumption)))); (try (have HP43 := Kd.R_putg HO_5.out ((ji26) : Int) (rd x5_3 x11_3))))); refine store_event (t := 36) (p := 112) (v := ?vo_w44) (w1 := (w42.setCell ⟨go34, ((ji26) : Int).toNat, none⟩ (.int .u16 (rd x5_3 x11_3)))) ?hg ?ho ?hn ?hr ?_; (case ho => rfl); (case hg => rfl); (case hn => rfl); (case hr => first | (go_simp; done) | (go_simp; rfl)); intro w44 hw; have hg : w42.grownBy w44 (some go34) := (by rw [hw]; exact HP43.2); have hp_ : Kd.R (Kd.int .u16) 36 w44 w.heap.size (fun k_ => some k_ ≠ (.slice (some ⟨go30, 0, none⟩) x4_3.length co22 : Value).ownBlock) (.slice (some ⟨go34, 0, none⟩) x5_3.length co40) y126 := (by rw [hw, Ny126.out]; exact HP43.1); clear HP43; have n0_ := Aside0.mk (Kd.R_after (v := (.slice (some ⟨go34, 0, none⟩) x5_3.length co40)) (v1 := (.slice (some ⟨go34, 0, none⟩) x5_3.length co40)) (ok := (fun _ => True)) (by (with_reducible repeat (first | apply Kd.R_alloc | apply Kd.R_drewN | apply Kd.R_drew)); exact HO_4.out) hg (.inl rfl)); have n1_ := Aside0.mk (hp_); have n2_ := Aside0.mk ((by rw [hw]; exact below_set (HB.out) GB34.out : Below w.heap.size w w44)); clear HO_4; clear HO_5; clear HB; have HO_4 := n0_; have HO_5 := n1_; have HB := n2_; clear n0_ n1_ n2_; clear hg hw hp_)); try go_wp2_with (first | ((with_reducible refine gate_store (t := 36) (p := 90) rfl ?_); (try (rw [drewN_self wr]; generalize hq_ : World.drewN wr _ = wr; have n0_ := Aside0.mk (Kd.R_at hq_ HO_4.out); have n1_ := Aside0.mk (Kd.R_at hq_ HO_5.out); have n2_ := Aside0.mk (below_at hq_ HB.out); clear hq_ HO_4 HO_5 HB; have HO_4 := n0_; have HO_5 := n1_; have HB := n2_; clear n0_ n1_ n2_; (try (have HP36 := Kd.R_putg HO_4.out (x11_3 : Int) (rd x4_3 (ji26)))); (try (obtain ⟨hcellx_, hcellf_⟩ := Kd.R_celln 0 HO_4.out (x11_3 : Int) (of_decide_eq_true (by first | (with_reducible assumption) | assumption)) (of_decide_eq_true (by first | (with_reducible assumption) | assumption)))))); refine store_event (t := 36) (p := 90) (v := ?vo_w37) (w1 := (wr.setCell ⟨go30, (x11_3 : Int).toNat, none⟩ (.int .u16 (rd x4_3 (ji26))))) ?hg ?ho ?hn ?hr ?_; (case ho => rfl); (case hg => rfl); (case hn => rfl); (case hr => first | (go_simp; done) | (go_simp; rfl)); intro w37 hw; have hg : wr.grownBy w37 (some go30) := (by rw [hw]; exact HP36.2); have hp_ : Kd.R (Kd.int .u16) 36 w37 w.heap.size (fun k_ => some k_ ≠ (v115 : Value).ownBlock) (.slice (some ⟨go30, 0, none⟩) x4_3.length co22) y121 := (by rw [hw, Ny121.out]; exact HP36.1); clear HP36; have n0_ := Aside0.mk (hp_); have n1_ := Aside0.mk (Kd.R_after (v := (.slice (some ⟨go30, 0, none⟩) x4_3.length co22)) (v1 := (.slice (some ⟨go30, 0, none⟩) x4_3.length co22)) (ok := (fun _ => True)) (by (with_reducible repeat (first | apply Kd.R_alloc | apply Kd.R_drewN | apply Kd.R_drew)); exact Kd.R_mono HO_5.out (fun _ hk => ⟨trivial, hk⟩)) hg (.inl rfl)); have n2_ := Aside0.mk ((by rw [hw]; exact below_set (HB.out) GB30.out : Below w.heap.size w w37)); clear HO_4; clear HO_5; clear HB; have HO_4 := n0_; have HO_5 := n1_; have HB := n2_; clear n0_ n1_ n2_; clear hg hw hp_; have p31 : 0 ≤ ((ji26) : Int) := of_decide_eq_true (by first | (with_reducible assumption) | assumption); have q31 : ((ji26) : Int) < ((x4_3.length : Int) : Int) := of_decide_eq_true (by first | (with_reducible assumption) | assumption); obtain ⟨hx31_0, hf31_0⟩ := Kd.R_celln 0 HO_4.out ((ji26) : Int) p31 q31; replace p31 := eq_true p31; replace q31 := eq_true q31; obtain ⟨hy38_, hz38_⟩ := Kd.R_celln 0 HO_4.out ((ji26) : Int) (of_decide_eq_true (by first | (with_reducible assumption) | assumption)) (of_decide_eq_true (by first | (with_reducible assumption) | assumption)); have HP38 := Kd.R_putg HO_4.out ((ji26) : Int) (rd x4_3 x11_3)) | ((with_reducible refine gate_store (t := 36) (p := 95) rfl ?_); (try (rw [drewN_self w37]; generalize hq_ : World.drewN w37 _ = w37; have n0_ := Aside0.mk (Kd.R_at hq_ HO_4.out); have n1_ := Aside0.mk (Kd.R_at hq_ HO_5.out); have n2_ := Aside0.mk (below_at hq_ HB.out); clear hq_ HO_4 HO_5 HB; have HO_4 := n0_; have HO_5 := n1_; have HB := n2_; clear n0_ n1_ n2_; (try (obtain ⟨hy38_, hz38_⟩ := Kd.R_celln 0 HO_4.out ((ji26) : Int) (of_decide_eq_true (by first | (with_reducible assumption) | assumption)) (of_decide_eq_true (by first | (with_reducible assumption) | assumption)))); (try (have HP38 := Kd.R_putg HO_4.out ((ji26) : Int) (rd x4_3 x11_3))))); refine store_event (t := 36) (p := 95) (v := ?vo_w39) (w1 := (w37.setCell ⟨go30, ((ji26) : Int).toNat, none⟩ (.int .u16 (rd x4_3 x11_3)))) ?hg ?ho ?hn ?hr ?_; (case ho => rfl); (case hg => rfl); (case hn => rfl); (case hr => first | (go_simp; done) | (go_simp; rfl)); intro w39 hw; have hg : w37.grownBy w39 (some go30) := (by rw [hw]; exact HP38.2); have hp_ : Kd.R (Kd.int .u16) 36 w39 w.heap.size (fun k_ => some k_ ≠ (v115 : Value).ownBlock) (.slice (some ⟨go30, 0, none⟩) x4_3.length co22) y122 := (by rw [hw, Ny122.out]; exact HP38.1); clear HP38; have n0_ := Aside0.mk (hp_); have n1_ := Aside0.mk (Kd.R_after (v := (.slice (some ⟨go30, 0, none⟩) x4_3.length co22)) (v1 := (.slice (some ⟨go30, 0, none⟩) x4_3.length co22)) (ok := (fun _ => True)) (by (with_reducible repeat (first | apply Kd.R_alloc | apply Kd.R_drewN | apply Kd.R_drew)); exact HO_5.out) hg (.inl rfl)); have n2_ := Aside0.mk ((by rw [hw]; exact below_set (HB.out) GB30.out : Below w.heap.size w w39)); clear HO_4; clear HO_5; clear HB; have HO_4 := n0_; have HO_5 := n1_; have HB := n2_; clear n0_ n1_ n2_; clear hg hw hp_; obtain ⟨Ao40, co40, eo40⟩ := Kd.R_slice HO_5.out; subst eo40; have p123 : 0 ≤ (x11_3 : Int) := of_decide_eq_true (by first | (with_reducible assumption) | assumption); have q123 : x11_3 < (x5_3.length : Int) := of_decide_eq_true (by first | (with_reducible assumption) | assumption); obtain ⟨ad123, e123, hx123_0⟩ := Kd.at_int (Kd.R_reads' HO_5.out).2.2 x11_3 p123 q123; cases e123; replace p123 := eq_true p123; replace q123 := eq_true q123; have p124 : 0 ≤ ((ji26) : Int) := of_decide_eq_true (by first | (with_reducible assumption) | assumption); have q124 : (ji26) < (x5_3.length : Int) := of_decide_eq_true (by first | (with_reducible assumption) | assumption); obtain ⟨ad124, e124, hx124_0⟩ := Kd.at_int (Kd.R_reads' HO_5.out).2.2 (ji26) p124 q124; obtain rfl : ad123 = ad124 := (by injection e124); replace p124 := eq_true p124; replace q124 := eq_true q124; have p34 : 0 ≤ (x11_3 : Int) := of_decide_eq_true (by first | (with_reducible assumption) | assumption); have q34 : (x11_3 : Int) < ((x5_3.length : Int) : Int) := of_decide_eq_true (by first | (with_reducible assumption) | assumption); obtain ⟨go34, co34, eo34, gb34, gl34, cl34, HG34⟩ := Kd.R_form HO_5.out (by omega); (first | cases eo34 | (injection eo34 with ea_ en_ ec_; (first | subst ea_ | (injection ea_ with ea_; subst ea_)); subst ec_; clear en_)); have GB34 := Aside0.mk gb34; have GG34 := Aside0.mk HG34; clear gb34 gl34 HG34; (first | simp only [add_plain] at hx123_0 | skip); (first | simp only [add_plain] at hx124_0 | skip); obtain ⟨hx34_0, hf34_0⟩ := Kd.R_celln 0 HO_5.out (x11_3 : Int) p34 q34; replace p34 := eq_true p34; replace q34 := eq_true q34; have n_ := Aside0.mk (Kd.R_mono (ok' := (fun k_ => some k_ ≠ (.slice (some ⟨go30, 0, none⟩) x4_3.length co22 : Value).ownBlock)) HO_5.out (fun k_ hk => hk.2)); clear HO_5; have HO_5 := n_; clear n_; obtain ⟨hy41_, hz41_⟩ := Kd.R_celln 0 HO_5.out (x11_3 : Int) (of_decide_eq_true (by first | (with_reducible assumption) | assumption)) (of_decide_eq_true (by first | (with_reducible assumption) | assumption)); have HP41 := Kd.R_putg HO_5.out (x11_3 : Int) (rd x5_3 (ji26))) | ((with_reducible refine gate_store (t := 36) (p := 107) rfl ?_); (try (rw [drewN_self w39]; generalize hq_ : World.drewN w39 _ = w39; have n0_ := Aside0.mk (Kd.R_at hq_ HO_4.out); have n1_ := Aside0.mk (Kd.R_at hq_ HO_5.out); have n2_ := Aside0.mk (below_at hq_ HB.out); clear hq_ HO_4 HO_5 HB; have HO_4 := n0_; have HO_5 := n1_; have HB := n2_; clear n0_ n1_ n2_; (try (have n_ := Aside0.mk (Kd.R_mono (ok' := (fun k_ => some k_ ≠ (.slice (some ⟨go30, 0, none⟩) x4_3.length co22 : Value).ownBlock)) HO_5.out (fun k_ hk => hk.2)); clear HO_5; have HO_5 := n_; clear n_)); (try (obtain ⟨hy41_, hz41_⟩ := Kd.R_celln 0 HO_5.out (x11_3 : Int) (of_decide_eq_true (by first | (with_reducible assumption) | assumption)) (of_decide_eq_true (by first | (with_reducible assumption) | assumption)))); (try (have HP41 := Kd.R_putg HO_5.out (x11_3 : Int) (rd x5_3 (ji26)))); (try (obtain ⟨hcellx_, hcellf_⟩ := Kd.R_celln 0 HO_5.out (x11_3 : Int) (of_decide_eq_true (by first | (with_reducible assumption) | assumption)) (of_decide_eq_true (by first | (with_reducible assumption) | assumption)))))); refine store_event (t := 36) (p := 107) (v := ?vo_w42) (w1 := (w39.setCell ⟨go34, (x11_3 : Int).toNat, none⟩ (.int .u16 (rd x5_3 (ji26))))) ?hg ?ho ?hn ?hr ?_; (case ho => rfl); (case hg => rfl); (case hn => rfl); (case hr => first | (go_simp; done) | (go_simp; rfl)); intro w42 hw; have hg : w39.grownBy w42 (some go34) := (by rw [hw]; exact HP41.2); have hp_ : Kd.R (Kd.int .u16) 36 w42 w.heap.size (fun k_ => some k_ ≠ (.slice (some ⟨go30, 0, none⟩) x4_3.length co22 : Value).ownBlock) (.slice (some ⟨go34, 0, none⟩) x5_3.length co40) y125 := (by rw [hw, Ny125.out]; exact HP41.1); clear HP41; have n0_ := Aside0.mk (Kd.R_after (v := (.slice (some ⟨go34, 0, none⟩) x5_3.length co40)) (v1 := (.slice (some ⟨go34, 0, none⟩) x5_3.length co40)) (ok := (fun _ => True)) (by (with_reducible repeat (first | apply Kd.R_alloc | apply Kd.R_drewN | apply Kd.R_drew)); exact Kd.R_mono HO_4.out (fun _ hk => ⟨trivial, hk⟩)) hg (.inl rfl)); have n1_ := Aside0.mk (hp_); have n2_ := Aside0.mk ((by rw [hw]; exact below_set (HB.out) GB34.out : Below w.heap.size w w42)); clear HO_4; clear HO_5; clear HB; have HO_4 := n0_; have HO_5 := n1_; have HB := n2_; clear n0_ n1_ n2_; clear hg hw hp_; have p35 : 0 ≤ ((ji26) : Int) := of_decide_eq_true (by first | (with_reducible assumption) | assumption); have q35 : ((ji26) : Int) < ((x5_3.length : Int) : Int) := of_decide_eq_true (by first | (with_reducible assumption) | assumption); obtain ⟨hx35_0, hf35_0⟩ := Kd.R_celln 0 HO_5.out ((ji26) : Int) p35 q35; replace p35 := eq_true p35; replace q35 := eq_true q35; obtain ⟨hy43_, hz43_⟩ := Kd.R_celln 0 HO_5.out ((ji26) : Int) (of_decide_eq_true (by first | (with_reducible assumption) | assumption)) (of_decide_eq_true (by first | (with_reducible assumption) | assumption)); have HP43 := Kd.R_putg HO_5.out ((ji26) : Int) (rd x5_3 x11_3)) | ((with_reducible refine gate_store (t := 36) (p := 112) rfl ?_); (try (rw [drewN_self w42]; generalize hq_ : World.drewN w42 _ = w42; have n0_ := Aside0.mk (Kd.R_at hq_ HO_4.out); have n1_ := Aside0.mk (Kd.R_at hq_ HO_5.out); have n2_ := Aside0.mk (below_at hq_ HB.out); clear hq_ HO_4 HO_5 HB; have HO_4 := n0_; have HO_5 := n1_; have HB := n2_; clear n0_ n1_ n2_; (try (obtain ⟨hy43_, hz43_⟩ := Kd.R_celln 0 HO_5.out ((ji26) : Int) (of_decide_eq_true (by first | (with_reducible assumption) | assumption)) (of_decide_eq_true (by first | (with_reducible assumption) | assumption)))); (try (have HP43 := Kd.R_putg HO_5.out ((ji26) : Int) (rd x5_3 x11_3))))); refine store_event (t := 36) (p := 112) (v := ?vo_w44) (w1 := (w42.setCell ⟨go34, ((ji26) : Int).toNat, none⟩ (.int .u16 (rd x5_3 x11_3)))) ?hg ?ho ?hn ?hr ?_; (case ho => rfl); (case hg => rfl); (case hn => rfl); (case hr => first | (go_simp; done) | (go_simp; rfl)); intro w44 hw; have hg : w42.grownBy w44 (some go34) := (by rw [hw]; exact HP43.2); have hp_ : Kd.R (Kd.int .u16) 36 w44 w.heap.size (fun k_ => some k_ ≠ (.slice (some ⟨go30, 0, none⟩) x4_3.length co22 : Value).ownBlock) (.slice (some ⟨go34, 0, none⟩) x5_3.length co40) y126 := (by rw [hw, Ny126.out]; exact HP43.1); clear HP43; have n0_ := Aside0.mk (Kd.R_after (v := (.slice (some ⟨go34, 0, none⟩) x5_3.length co40)) (v1 := (.slice (some ⟨go34, 0, none⟩) x5_3.length co40)) (ok := (fun _ => True)) (by (with_reducible repeat (first | apply Kd.R_alloc | apply Kd.R_drewN | apply Kd.R_drew)); exact HO_4.out) hg (.inl rfl)); have n1_ := Aside0.mk (hp_); have n2_ := Aside0.mk ((by rw [hw]; exact below_set (HB.out) GB34.out : Below w.heap.size w w44)); clear HO_4; clear HO_5; clear HB; have HO_4 := n0_; have HO_5 := n1_; have HB := n2_; clear n0_ n1_ n2_; clear hg hw hp_)))
                                        (try simp only [← hl4_3])
                                        go_roundg k3
                                        case measure => have := HK1.out; have := HK2.out; have := HK3.out; omega
                                        case rel => exact ⟨(y122), (y126), (ji26), (by first | rfl | (simp; done) | (simp only [← hji26] <;> (first | rfl | simp)) | (simp [*]; done)), H', ⟨by have := HK1.out; have := HK2.out; have := HK3.out; omega⟩, ⟨by (try simp only [hl4_3]); (with_reducible repeat (first | apply Kd.R_alloc | apply Kd.R_drewN | apply Kd.R_drew)); exact Kd.R_mono HO_4.out (fun _ hk => hk.2)⟩, ⟨by (try simp only [hl4_3]); (with_reducible repeat (first | apply Kd.R_alloc | apply Kd.R_drewN | apply Kd.R_drew)); exact HO_5.out⟩, ⟨by repeat (first | (with_reducible first | exact HB.out | apply below_alloc | apply pw_below_drewN | apply below_drew1) | exact HB.out)⟩⟩
                                      · rw [if_neg c33] at H
                                        exact absurd H (by simp)
                                    · rw [if_neg c32] at H
                                      exact absurd H (by simp)
                                  · rw [if_neg c29] at H
                                    have c29b0 : decide ((rd x4_3 (ji26)) < (rd x4_3 x11_3)) = false := decide_eq_false c29
                                    clear c29
                                    have H' := Aside0.mk H
                                    clear H
                                    have p117 : 0 ≤ (x11_3 : Int) := of_decide_eq_true (by first | (with_reducible assumption) | assumption)
                                    have q117 : x11_3 < (x4_3.length : Int) := of_decide_eq_true (by first | (with_reducible assumption) | assumption)
                                    obtain ⟨ad117, e117, hx117_0⟩ := Kd.at_int (Kd.R_reads' HO_4.out).2.2 x11_3 p117 q117
                                    cases e117
                                    replace p117 := eq_true p117
                                    replace q117 := eq_true q117
                                    have p118 : 0 ≤ ((ji26) : Int) := of_decide_eq_true (by first | (with_reducible assumption) | assumption)
                                    have q118 : (ji26) < (x4_3.length : Int) := of_decide_eq_true (by first | (with_reducible assumption) | assumption)
                                    obtain ⟨ad118, e118, hx118_0⟩ := Kd.at_int (Kd.R_reads' HO_4.out).2.2 (ji26) p118 q118
                                    obtain rfl : ad117 = ad118 := (by injection e118)
                                    replace p118 := eq_true p118
                                    replace q118 := eq_true q118
                                    go_wp2
                                    repeat (go_quiet (fail); try go_wp2)
                                    (try simp only [← hl4_3])
                                    go_roundg k3
                                    case measure => have := HK1.out; have := HK2.out; have := HK3.out; omega
                                    case rel => exact ⟨(x4_3), (x5_3), (IntKind.u64.wrap (x7_1 + 1)), (by first | rfl | (simp; done) | (simp [*]; done)), H', ⟨by have := HK1.out; have := HK2.out; have := HK3.out; omega⟩, ⟨by (try simp only [hl4_3]); (with_reducible repeat (first | apply Kd.R_alloc | apply Kd.R_drewN | apply Kd.R_drew)); exact HO_4.out⟩, ⟨by (try simp only [hl4_3]); (with_reducible repeat (first | apply Kd.R_alloc | apply Kd.R_drewN | apply Kd.R_drew)); exact HO_5.out⟩, ⟨by repeat (first | (with_reducible first | exact HB.out | apply below_alloc | apply pw_below_drewN | apply below_drew1) | exact HB.out)⟩⟩
                                · rw [if_neg c28] at H
                                  exact absurd H (by simp)
                              · rw [if_neg c27] at H
                                exact absurd H (by simp)
                            · rw [if_neg c25] at H
                              exact absurd H (by simp)
                          · rw [if_neg c24] at H
                            exact absurd H (by simp)
                        · rw [if_neg c23] at H
                          have c23b0 : decide (0 < x11_3) = false := decide_eq_false c23
                          clear c23
                          have H' := Aside0.mk H
                          clear H
                          go_wp2
                          repeat (go_quiet (fail); try go_wp2)
                          (try simp only [← hl4_3])
                          go_roundg k3
                          case measure => have := HK1.out; have := HK2.out; have := HK3.out; omega
                          case rel => exact ⟨(x4_3), (x5_3), (IntKind.u64.wrap (x7_1 + 1)), (by first | rfl | (simp; done) | (simp [*]; done)), H', ⟨by have := HK1.out; have := HK2.out; have := HK3.out; omega⟩, ⟨by (try simp only [hl4_3]); (with_reducible repeat (first | apply Kd.R_alloc | apply Kd.R_drewN | apply Kd.R_drew)); exact HO_4.out⟩, ⟨by (try simp only [hl4_3]); (with_reducible repeat (first | apply Kd.R_alloc | apply Kd.R_drewN | apply Kd.R_drew)); exact HO_5.out⟩, ⟨by repeat (first | (with_reducible first | exact HB.out | apply below_alloc | apply pw_below_drewN | apply below_drew1) | exact HB.out)⟩⟩
                  · rw [if_neg c18] at H
                    exact absurd H (by simp)
                · rw [if_neg c17] at H
                  exact absurd H (by simp)
        · rw [if_neg c7] at H
          exact absurd H (by simp)
      · rw [if_neg c6] at H
        have c6b0 : decide (x7_1 < 16) = false := decide_eq_false c6
        clear c6
        have H' := Aside0.mk H
        clear H
        go_wp2
        repeat (go_quiet (fail); try go_wp2)
        go_loopg [0, 6, 12] k1 (fun kq v0 v6 v12 w' => ∃ (x0_2 : Int) (x6_2 : Int) (x12_2 : Int), v0 = .int .u16 x0_2 ∧ v6 = .int .u16 x6_2 ∧ v12 = .int .i64 x12_2 ∧ Aside0 (spec_l01Half.l3 kq x0_2 x4_1 x5_1 x6_2 x12_2 = some (r1, r2)) ∧ Aside0 (kq ≤ k1) ∧ Aside0 (Kd.R (Kd.int .u16) 36 w' w.heap.size (fun k_ => some k_ ≠ (u5 : Value).ownBlock) u4 x4_1) ∧ Aside0 (Kd.R (Kd.int .u16) 36 w' w.heap.size (fun k_ => some k_ ≠ (u4 : Value).ownBlock) u5 x5_1) ∧ Aside0 (Below w.heap.size w w'))
        case atStart => exact ⟨(a0), (0), (0), (by first | rfl | (simp; done) | (simp [*]; done)), (by first | rfl | (simp; done) | (simp [*]; done)), (by first | rfl | (simp; done) | (simp [*]; done)), H', ⟨Nat.le_refl _⟩, ⟨by (with_reducible repeat (first | apply Kd.R_alloc | apply Kd.R_drewN | apply Kd.R_drew)); exact HO_4.out⟩, ⟨by (with_reducible repeat (first | apply Kd.R_alloc | apply Kd.R_drewN | apply Kd.R_drew)); exact HO_5.out⟩, ⟨by repeat (first | (with_reducible first | exact HB.out | apply below_alloc | apply pw_below_drewN | apply below_drew1) | exact HB.out)⟩⟩
        case round =>
          clear H'
          try clear c1
          try clear p1
          try clear q1
          try clear hx1
          try clear c2
          try clear p2
          try clear c3
          try clear p3
          try clear q3
          try clear hx3
          try clear hf3
          try clear c6
          try clear c6b0
          try clear p6
          try clear c7
          try clear c7b0
          try clear c7b1
          try clear c9
          try clear c10
          try clear c10b0
          try clear p10
          try clear q10
          try clear hx10
          try clear c11
          try clear c11b0
          try clear p11
          try clear q11
          try clear hx11
          try clear c12
          try clear c12b0
          try clear p12
          try clear q12
          try clear hx12
          try clear c13
          try clear c13b0
          try clear c17
          try clear c18
          try clear c23
          try clear c23b0
          try clear c24
          try clear c24b0
          try clear c25
          try clear c25b0
          try clear c27
          try clear c27b0
          try clear c28
          try clear c28b0
          try clear c29
          try clear c29b0
          try clear p30
          try clear q30
          try clear hx30
          try clear hf30
          try clear p31
          try clear q31
          try clear hx31
          try clear hf31
          try clear c32
          try clear c32b0
          try clear c33
          try clear c33b0
          try clear p34
          try clear q34
          try clear hx34
          try clear hf34
          try clear p35
          try clear q35
          try clear hx35
          try clear hf35
          try clear hx108_0
          try clear hx109_0
          try clear hx110_0
          try clear hx117_0
          try clear hx118_0
          try clear hx119_0
          try clear hx120_0
          try clear hx123_0
          try clear hx124_0
          try clear hx30_0
          try clear hx31_0
          try clear hx34_0
          try clear hx35_0
          try clear p1
          try clear p10
          try clear p108
          try clear p109
          try clear p11
          try clear p110
          try clear p117
          try clear p118
          try clear p119
          try clear p120
          try clear p123
          try clear p124
          try clear p2
          try clear p30
          try clear p31
          try clear p34
          try clear p35
          try clear p6
          try clear q1
          try clear q10
          try clear q108
          try clear q109
          try clear q11
          try clear q110
          try clear q117
          try clear q118
          try clear q119
          try clear q120
          try clear q123
          try clear q124
          try clear q30
          try clear q31
          try clear q34
          try clear q35
          obtain ⟨x0_2, x6_2, x12_2, rfl, rfl, rfl, HA, HK2, HO_4, HO_5, HB⟩ := hrel
          cases gk with
          | zero => exact absurd HA.out (by simp [spec_l01Half.l3])
          | succ k2 =>
            have H := HA.out
            clear HA
            simp only [spec_l01Half.l3] at H
            by_cases c45 : x12_2 < (x4_1.length : Int)
            · rw [if_pos c45] at H
              have c45b0 : decide (x12_2 < (x4_1.length : Int)) = true := decide_eq_true c45
              clear c45
              by_cases c46 : 0 ≤ x12_2
              · rw [if_pos c46] at H
                have c46b0 : decide (0 ≤ x12_2) = true := decide_eq_true c46
                clear c46
                by_cases c47 : (Go.bits .xor .u16 x0_2 (rd x4_1 x12_2)) < x0_2
                · rw [if_pos c47] at H
                  have c47b0 : decide ((Go.bits .xor .u16 x0_2 (rd x4_1 x12_2)) < x0_2) = true := decide_eq_true c47
                  clear c47
                  by_cases c48 : x12_2 < (x5_1.length : Int)
                  · rw [if_pos c48] at H
                    have c48b0 : decide (x12_2 < (x5_1.length : Int)) = true := decide_eq_true c48
                    clear c48
                    have H' := Aside0.mk H
                    clear H
                    obtain ⟨Ao49, co49, eo49⟩ := Kd.R_slice HO_4.out
                    subst eo49
                    have p127 : 0 ≤ (x12_2 : Int) := of_decide_eq_true (by first | (with_reducible assumption) | assumption)
                    have q127 : x12_2 < (x4_1.length : Int) := of_decide_eq_true (by first | (with_reducible assumption) | assumption)
                    obtain ⟨ad127, e127, hx127_0⟩ := Kd.at_int (Kd.R_reads' HO_4.out).2.2 x12_2 p127 q127
                    cases e127
                    replace p127 := eq_true p127
                    replace q127 := eq_true q127
                    have p128 : 0 ≤ (x12_2 : Int) := of_decide_eq_true (by first | (with_reducible assumption) | assumption)
                    have q128 : x12_2 < (x4_1.length : Int) := of_decide_eq_true (by first | (with_reducible assumption) | assumption)
                    obtain ⟨ad128, e128, hx128_0⟩ := Kd.at_int (Kd.R_reads' HO_4.out).2.2 x12_2 p128 q128
                    obtain rfl : ad127 = ad128 := (by injection e128)
                    replace p128 := eq_true p128
                    replace q128 := eq_true q128
                    obtain ⟨Ao50, co50, eo50⟩ := Kd.R_slice HO_5.out
                    subst eo50
                    have p129 : 0 ≤ (x12_2 : Int) := of_decide_eq_true (by first | (with_reducible assumption) | assumption)
                    have q129 : x12_2 < (x5_1.length : Int) := of_decide_eq_true (by first | (with_reducible assumption) | assumption)
                    obtain ⟨ad129, e129, hx129_0⟩ := Kd.at_int (Kd.R_reads' HO_5.out).2.2 x12_2 p129 q129
                    cases e129
                    replace p129 := eq_true p129
                    replace q129 := eq_true q129
                    go_wp2
                    repeat (go_quiet (fail); try go_wp2)
                    go_roundg k2
                    case measure => have := HK1.out; have := HK2.out; omega
                    case rel => exact ⟨(Go.bits .xor .u16 x0_2 (rd x4_1 x12_2)), (Go.bits .xor .u16 x6_2 (rd x5_1 x12_2)), (wrap64 (x12_2 + 1)), (by first | rfl | (simp; done) | (simp [*]; done)), (by first | rfl | (simp; done) | (simp [*]; done)), (by first | rfl | (simp; done) | (simp [*]; done)), H', ⟨by have := HK1.out; have := HK2.out; omega⟩, ⟨by (with_reducible repeat (first | apply Kd.R_alloc | apply Kd.R_drewN | apply Kd.R_drew)); exact HO_4.out⟩, ⟨by (with_reducible repeat (first | apply Kd.R_alloc | apply Kd.R_drewN | apply Kd.R_drew)); exact HO_5.out⟩, ⟨by repeat (first | (with_reducible first | exact HB.out | apply below_alloc | apply pw_below_drewN | apply below_drew1) | exact HB.out)⟩⟩
                  · rw [if_neg c48] at H
                    exact absurd H (by simp)
                · rw [if_neg c47] at H
                  have c47b0 : decide ((Go.bits .xor .u16 x0_2 (rd x4_1 x12_2)) < x0_2) = false := decide_eq_false c47
                  clear c47
                  have H' := Aside0.mk H
                  clear H
                  obtain ⟨Ao51, co51, eo51⟩ := Kd.R_slice HO_4.out
                  subst eo51
                  have p127 : 0 ≤ (x12_2 : Int) := of_decide_eq_true (by first | (with_reducible assumption) | assumption)
                  have q127 : x12_2 < (x4_1.length : Int) := of_decide_eq_true (by first | (with_reducible assumption) | assumption)
                  obtain ⟨ad127, e127, hx127_0⟩ := Kd.at_int (Kd.R_reads' HO_4.out).2.2 x12_2 p127 q127
                  cases e127
                  replace p127 := eq_true p127
                  replace q127 := eq_true q127
                  go_wp2
                  repeat (go_quiet (fail); try go_wp2)
                  go_roundg k2
                  case measure => have := HK1.out; have := HK2.out; omega
                  case rel => exact ⟨(x0_2), (x6_2), (wrap64 (x12_2 + 1)), (by first | rfl | (simp; done) | (simp [*]; done)), (by first | rfl | (simp; done) | (simp [*]; done)), (by first | rfl | (simp; done) | (simp [*]; done)), H', ⟨by have := HK1.out; have := HK2.out; omega⟩, ⟨by (with_reducible repeat (first | apply Kd.R_alloc | apply Kd.R_drewN | apply Kd.R_drew)); exact HO_4.out⟩, ⟨by (with_reducible repeat (first | apply Kd.R_alloc | apply Kd.R_drewN | apply Kd.R_drew)); exact HO_5.out⟩, ⟨by repeat (first | (with_reducible first | exact HB.out | apply below_alloc | apply pw_below_drewN | apply below_drew1) | exact HB.out)⟩⟩
              · rw [if_neg c46] at H
                exact absurd H (by simp)
            · rw [if_neg c45] at H
              have c45b0 : decide (x12_2 < (x4_1.length : Int)) = false := decide_eq_false c45
              clear c45
              simp only [Option.some.injEq, Prod.mk.injEq] at H
              obtain ⟨rfl, rfl⟩ := H
              obtain ⟨Ao52, co52, eo52⟩ := Kd.R_slice HO_4.out
              subst eo52
              go_wp2
              repeat (go_quiet (fail); try go_wp2)
              go_ret2
              exact ⟨by first | rfl | (simp [errW_none, errW_some] <;> rfl) | (simp [*, errW_none, errW_some] <;> rfl), by repeat (first | (with_reducible first | exact HB.out | apply below_alloc | apply pw_below_drewN | apply below_drew1) | exact HB.out)⟩
end Go.Proofs.Ytadfobooofkelaa.X

-- Laid by wip/xprint.py of this session (the kit's print program, with some contracts given by hand). Not trusted: Lean checks it.
namespace Go.Proofs.Ytadfobooofkelaa.X
open Go.RowKit Go.Proofs.YtadfobooofkelaaW.PrintWords Go.Proofs.YtadfobooofkelaaW.PrintLast Go.Proofs.YtadfobooofkelaaW.PrintMore
attribute [local go_sem] max2_int min2_int max_two min_two max_three min_three max_four min_four
set_option linter.unusedVariables false
set_option linter.unusedSimpArgs false
def spec_HalfRoot.f (k : Nat) (a0 : Int) : Option (Int × Int) := (spec_l01Half.f k a0).bind fun bt101 => (if bt101.2 = true then (some (bt101.1, 0)) else (some (0, 6)))
set_option maxHeartbeats 8000000 in
set_option maxRecDepth 100000 in
theorem spec_HalfRoot.calls (k : Nat) (a0 : Int) (r1 : Int) (r2 : Int) (w : World) (h : spec_HalfRoot.f k a0 = some (r1, r2)) :
    Calls Try.prog 19 #[.int .u16 a0] w fun e w' => e = .returned (.tuple #[.int .u16 r1, .int .i64 r2]) ∧ Below w.heap.size w w' := by
  have HB := Aside0.mk (Below.refl w.heap.size w)
  have H : ((spec_l01Half.f k a0).bind fun bt101 => (if bt101.2 = true then (some (bt101.1, 0)) else (some (0, 6)))) = some (r1, r2) := h
  clear h
  replace H := Option.bind_eq_some_iff.mp H
  obtain ⟨⟨t101, t102⟩, A20, H⟩ := H
  replace H : (if t102 = true then (some (t101, 0)) else (some (0, 6))) = some (r1, r2) := H
  have A2 := Aside0.mk A20
  clear A20
  by_cases c3 : t102 = true
  · subst c3
    have H1 : (some (t101, 0)) = some (r1, r2) := by rw [if_pos rfl] at H; exact H
    clear H
    have H := H1
    clear H1
    simp only [Option.some.injEq, Prod.mk.injEq] at H
    obtain ⟨rfl, rfl⟩ := H
    go_enter Try.func19, Try.ntmps19
    go_wp2_with (first | ((with_reducible refine gate_callee (f := 97) rfl ?_); refine goesL_ (some 8) rfl rfl Try.func97 (by kernel_rfl) rfl #[.int .u16 a0] rfl (by (try simp only [List.map_toArray, List.map_cons, List.map_nil]); first | done | rfl | (simp only [List.length_drop, List.length_take]; rfl)) ?_; (with_reducible refine (spec_l01Half.calls k a0 t101 true _ A2.out).mono ?_); rintro e w4 ⟨rfl, hb⟩; refine ⟨_, rfl, ?_⟩; have n0_ := Aside0.mk (below_step (by repeat (first | (with_reducible first | exact HB.out | apply below_alloc | apply pw_below_drewN | apply below_drew1) | exact HB.out)) hb); clear HB; have HB := n0_; clear n0_; (try clear hb); (try clear hb2); (try clear hk); (try clear hi)))
    go_ret2
    exact ⟨by first | rfl | (simp [errW_none, errW_some] <;> rfl) | (simp [*, errW_none, errW_some] <;> rfl), by repeat (first | (with_reducible first | exact HB.out | apply below_alloc | apply pw_below_drewN | apply below_drew1) | exact HB.out)⟩
  · replace c3 := Bool.eq_false_iff.mpr c3
    subst c3
    have H1 : (some (0, 6)) = some (r1, r2) := by rw [if_neg (show ¬ (false = true) by decide)] at H; exact H
    clear H
    have H := H1
    clear H1
    simp only [Option.some.injEq, Prod.mk.injEq] at H
    obtain ⟨rfl, rfl⟩ := H
    go_enter Try.func19, Try.ntmps19
    go_wp2_with (first | ((with_reducible refine gate_callee (f := 97) rfl ?_); refine goesL_ (some 8) rfl rfl Try.func97 (by kernel_rfl) rfl #[.int .u16 a0] rfl (by (try simp only [List.map_toArray, List.map_cons, List.map_nil]); first | done | rfl | (simp only [List.length_drop, List.length_take]; rfl)) ?_; (with_reducible refine (spec_l01Half.calls k a0 t101 false _ A2.out).mono ?_); rintro e w5 ⟨rfl, hb⟩; refine ⟨_, rfl, ?_⟩; have n0_ := Aside0.mk (below_step (by repeat (first | (with_reducible first | exact HB.out | apply below_alloc | apply pw_below_drewN | apply below_drew1) | exact HB.out)) hb); clear HB; have HB := n0_; clear n0_; (try clear hb); (try clear hb2); (try clear hk); (try clear hi)))
    go_ret2
    exact ⟨by first | rfl | (simp [errW_none, errW_some] <;> rfl) | (simp [*, errW_none, errW_some] <;> rfl), by repeat (first | (with_reducible first | exact HB.out | apply below_alloc | apply pw_below_drewN | apply below_drew1) | exact HB.out)⟩
end Go.Proofs.Ytadfobooofkelaa.X

-- Laid by wip/xprint.py of this session (the kit's print program, with some contracts given by hand). Not trusted: Lean checks it.
namespace Go.Proofs.Ytadfobooofkelaa.X
open Go.RowKit Go.Proofs.YtadfobooofkelaaW.PrintWords Go.Proofs.YtadfobooofkelaaW.PrintLast Go.Proofs.YtadfobooofkelaaW.PrintMore
attribute [local go_sem] max2_int min2_int max_two min_two max_three min_three max_four min_four
set_option linter.unusedVariables false
set_option linter.unusedSimpArgs false
mutual
def impl_half.j0 : Nat → Int → Int → Bool → Option (Int)
  | 0, _, _, _ => none
  | k + 1, x0, x1, x14 => if x14 = true then (some x0) else (if 0 ≤ (wrap64 (Int.tdiv x1 2)) then ((impl_half.f k (shr .u32 x0 (wrap64 (Int.tdiv x1 2))) (wrap64 (Int.tdiv x1 2))).bind fun t101 => ((impl_half.f k t101 (wrap64 (Int.tdiv x1 2))).bind fun t102 => ((impl_half.f k (Go.bits .and .u32 x0 (((shl .u32 1 (wrap64 (Int.tdiv x1 2))) - 1) % 4294967296)) (wrap64 (Int.tdiv x1 2))).bind fun t103 => (some (Go.bits .or .u32 t102 (shl .u32 (Go.bits .xor .u32 t101 t103) (wrap64 (Int.tdiv x1 2)))))))) else (none))
def impl_half.f : Nat → Int → Int → Option (Int)
  | 0, _, _ => none
  | k + 1, a0, a1 => if a1 = 1 then (impl_half.j0 k a0 a1 true) else (impl_half.j0 k a0 a1 (a0 == 0))
end
theorem impl_half.mono_l : ∀ k, (∀ y0 y1, LeO (impl_half.f k y0 y1) (impl_half.f (k + 1) y0 y1)) ∧ (∀ y0 y1 y2, LeO (impl_half.j0 k y0 y1 y2) (impl_half.j0 (k + 1) y0 y1 y2))
  | 0 => ⟨fun _ _ r h => by simp [impl_half.f] at h, fun _ _ _ r h => by simp [impl_half.j0] at h⟩
  | k + 1 => by
    obtain ⟨ih0, ih1⟩ := impl_half.mono_l k
    refine ⟨?_, ?_⟩
    · intro y0 y1
      unfold impl_half.f
      repeat' first
      | (with_reducible refine LeO.anyO (fun _ => ?_))
      | (with_reducible exact ih0 _ _)
      | (with_reducible exact ih1 _ _ _)
      | (with_reducible exact LeO.refl _)
      | (with_reducible exact LeO.none _)
      | (with_reducible refine LeO.ite ?_ ?_)
      | (with_reducible refine LeO.bind ?_ (fun _ => ?_))
      | exact ih0 _ _
      | exact ih1 _ _ _
      | exact LeO.none _
      | refine LeO.ite ?_ ?_
      | refine LeO.bind ?_ (fun _ => ?_)
    · intro y0 y1 y2
      unfold impl_half.j0
      repeat' first
      | (with_reducible refine LeO.anyO (fun _ => ?_))
      | (with_reducible exact ih0 _ _)
      | (with_reducible exact ih1 _ _ _)
      | (with_reducible exact LeO.refl _)
      | (with_reducible exact LeO.none _)
      | (with_reducible refine LeO.ite ?_ ?_)
      | (with_reducible refine LeO.bind ?_ (fun _ => ?_))
      | exact ih0 _ _
      | exact ih1 _ _ _
      | exact LeO.none _
      | refine LeO.ite ?_ ?_
      | refine LeO.bind ?_ (fun _ => ?_)
theorem impl_half.mono : ∀ a0 a1 k, LeO (impl_half.f k a0 a1) (impl_half.f (k + 1) a0 a1) := by
  intro a0 a1 k
  obtain ⟨ih0, ih1⟩ := impl_half.mono_l k
  exact ih0 a0 a1
set_option maxHeartbeats 8000000 in
set_option maxRecDepth 100000 in
theorem impl_half.calls (k : Nat) : ∀ (a0 : Int) (a1 : Int) (r : Int) (w : World) (h : impl_half.f k a0 a1 = some r),
    Calls Try.prog 173 #[.int .u32 a0, .int .i64 a1] w fun e w' => e = .returned (.int .u32 r) ∧ Drawn0 w w' := by
  induction k using Nat.strongRecOn with
  | _ k ih =>
  intro a0 a1 r w h
  cases k with
  | zero => exact absurd h (by simp [impl_half.f])
  | succ k =>
  simp only [impl_half.f] at h
  have H : (if a1 = 1 then (impl_half.j0 k a0 a1 true) else (impl_half.j0 k a0 a1 (a0 == 0))) = some r := h
  clear h
  have HC3 := Aside0.mk H
  clear H
  go_enter Try.func173, Try.ntmps173
  go_upto_region 1 with (fail)
  repeat (go_quiet (fail); go_upto_region 1 with (fail))
  go_cut [14] (fun v14 wc => ∃ (kq : Nat) (x14_2 : Bool), v14 = .bool x14_2 ∧ Aside0 (impl_half.j0 kq a0 a1 x14_2 = some r) ∧ Aside0 (kq ≤ k) ∧ Drawn0 w wc)
  case first =>
    have H := HC3.out
    clear HC3
    by_cases c4 : a1 = 1
    · rw [if_pos c4] at H
      have c4b0 : (a1 == 1) = true := beq_iff_eq.mpr c4
      have c4b1 : (a1 != 1) = false := bne_eq_false_iff_eq.mpr c4
      clear c4
      (first | rw [c4b0] | (simp only [i64_w, i32_w]; rw [c4b0]) | skip)
      have H' := Aside0.mk H
      clear H
      go_wp2
      repeat (go_quiet (fail); try go_wp2)
      go_meet
      case rel => exact ⟨_, (true), (by first | rfl | (simp; done) | (simp [*]; done)), H', ⟨by first | omega | exact Nat.le_refl _⟩, by repeat (first | exact Drawn0.refl _ | apply Drawn0.step)⟩
    · rw [if_neg c4] at H
      have c4b0 : (a1 == 1) = false := beq_eq_false_iff_ne.mpr c4
      have c4b1 : (a1 != 1) = true := bne_iff_ne.mpr c4
      (first | rw [c4b0] | (simp only [i64_w, i32_w]; rw [c4b0]) | skip)
      have H' := Aside0.mk H
      clear H
      go_wp2
      repeat (go_quiet (fail); try go_wp2)
      go_meet
      case rel => exact ⟨_, ((a0 == 0)), (by first | rfl | (simp; done) | (simp [*]; done)), H', ⟨by first | omega | exact Nat.le_refl _⟩, by repeat (first | exact Drawn0.refl _ | apply Drawn0.step)⟩
  case rest =>
    clear HC3
    try clear c1
    try clear p2
    try clear c4
    try clear c4b0
    try clear c4b1
    obtain ⟨kq, x14_2, rfl, HA, HJ2, ⟨mc2, rfl⟩⟩ := hcut
    cases kq with
    | zero => exact absurd HA.out (by simp [impl_half.j0])
    | succ kj2 =>
      have H := HA.out
      clear HA
      simp only [impl_half.j0] at H
      by_cases c5 : x14_2 = true
      · subst c5
        have H1 : (some a0) = some r := by rw [if_pos rfl] at H; exact H
        clear H
        have H := H1
        clear H1
        obtain rfl := Option.some.inj H
        go_wp2
        repeat (go_quiet (fail); try go_wp2)
        go_ret
        exact ⟨by first | rfl | (simp; done) | (simp [*]; done), by repeat (first | exact Drawn0.refl _ | apply Drawn0.step)⟩
      · replace c5 := Bool.eq_false_iff.mpr c5
        subst c5
        have H1 : (if 0 ≤ (wrap64 (Int.tdiv a1 2)) then ((impl_half.f kj2 (shr .u32 a0 (wrap64 (Int.tdiv a1 2))) (wrap64 (Int.tdiv a1 2))).bind fun t101 => ((impl_half.f kj2 t101 (wrap64 (Int.tdiv a1 2))).bind fun t102 => ((impl_half.f kj2 (Go.bits .and .u32 a0 (((shl .u32 1 (wrap64 (Int.tdiv a1 2))) - 1) % 4294967296)) (wrap64 (Int.tdiv a1 2))).bind fun t103 => (some (Go.bits .or .u32 t102 (shl .u32 (Go.bits .xor .u32 t101 t103) (wrap64 (Int.tdiv a1 2)))))))) else (none)) = some r := by rw [if_neg (show ¬ (false = true) by decide)] at H; exact H
        clear H
        have H := H1
        clear H1
        obtain ⟨ji6, hji6⟩ : ∃ j_ : Int, (wrap64 (Int.tdiv a1 2)) = j_ := ⟨_, rfl⟩
        replace H : (if 0 ≤ (ji6) then ((impl_half.f kj2 (shr .u32 a0 (ji6)) (ji6)).bind fun t101 => ((impl_half.f kj2 t101 (ji6)).bind fun t102 => ((impl_half.f kj2 (Go.bits .and .u32 a0 (((shl .u32 1 (ji6)) - 1) % 4294967296)) (ji6)).bind fun t103 => (some (Go.bits .or .u32 t102 (shl .u32 (Go.bits .xor .u32 t101 t103) (ji6))))))) else (none)) = some r := by first | (rw [hji6] at H; exact H) | (simp only [hji6] at H ⊢; exact H)
        have hji6w : (IntKind.i64.wrap (Int.tdiv a1 2)) = ji6 := (i64_w _).trans hji6
        by_cases c7 : 0 ≤ (ji6)
        · rw [if_pos c7] at H
          have c7b0 := eq_true c7
          have c7b1 : decide (0 ≤ (ji6)) = true := decide_eq_true c7
          clear c7
          obtain ⟨ji8, hji8⟩ : ∃ j_ : Int, (shl .u32 1 (ji6)) = j_ := ⟨_, rfl⟩
          replace H : ((impl_half.f kj2 (shr .u32 a0 (ji6)) (ji6)).bind fun t101 => ((impl_half.f kj2 t101 (ji6)).bind fun t102 => ((impl_half.f kj2 (Go.bits .and .u32 a0 (((ji8) - 1) % 4294967296)) (ji6)).bind fun t103 => (some (Go.bits .or .u32 t102 (shl .u32 (Go.bits .xor .u32 t101 t103) (ji6))))))) = some r := by first | (rw [hji8] at H; exact H) | (simp only [hji8] at H ⊢; exact H)
          have hji8_ : (IntKind.u32.wrap (1 * 2 ^ min (ji6).toNat 32)) = ji8 := hji8
          have hji8z : (ji6) ≤ 32 → (IntKind.u32.wrap (1 * 2 ^ (ji6).toNat)) = ji8 := shl_small hji8
          have hji8u : (IntKind.u32.wrap (2 ^ min (ji6).toNat 32)) = ji8 := by have h_ := hji8_; rw [Int.one_mul] at h_; exact h_
          have hji8v : (ji6) ≤ 32 → (IntKind.u32.wrap (2 ^ (ji6).toNat)) = ji8 := fun hle_ => by have h_ := hji8z hle_; rw [Int.one_mul] at h_; exact h_
          have c9b0 := eq_true (of_decide_eq_true (by first | (with_reducible assumption) | assumption) : 0 ≤ (ji6))
          obtain ⟨ji10, hji10⟩ : ∃ j_ : Int, (shr .u32 a0 (ji6)) = j_ := ⟨_, rfl⟩
          replace H : ((impl_half.f kj2 (ji10) (ji6)).bind fun t101 => ((impl_half.f kj2 t101 (ji6)).bind fun t102 => ((impl_half.f kj2 (Go.bits .and .u32 a0 (((ji8) - 1) % 4294967296)) (ji6)).bind fun t103 => (some (Go.bits .or .u32 t102 (shl .u32 (Go.bits .xor .u32 t101 t103) (ji6))))))) = some r := by first | (rw [hji10] at H; exact H) | (simp only [hji10] at H ⊢; exact H)
          have hji10_ : (a0 / 2 ^ min (ji6).toNat 32) = ji10 := hji10
          have hji10z : (ji6) ≤ 32 → (a0 / 2 ^ (ji6).toNat) = ji10 := shr_small hji10
          replace H := Option.bind_eq_some_iff.mp H
          obtain ⟨t101, A110, H⟩ := H
          replace H : ((impl_half.f kj2 t101 (ji6)).bind fun t102 => ((impl_half.f kj2 (Go.bits .and .u32 a0 (((ji8) - 1) % 4294967296)) (ji6)).bind fun t103 => (some (Go.bits .or .u32 t102 (shl .u32 (Go.bits .xor .u32 t101 t103) (ji6)))))) = some r := H
          have A11 := Aside0.mk A110
          clear A110
          replace H := Option.bind_eq_some_iff.mp H
          obtain ⟨t102, A120, H⟩ := H
          replace H : ((impl_half.f kj2 (Go.bits .and .u32 a0 (((ji8) - 1) % 4294967296)) (ji6)).bind fun t103 => (some (Go.bits .or .u32 t102 (shl .u32 (Go.bits .xor .u32 t101 t103) (ji6))))) = some r := H
          have A12 := Aside0.mk A120
          clear A120
          replace H := Option.bind_eq_some_iff.mp H
          obtain ⟨t103, A130, H⟩ := H
          replace H : (some (Go.bits .or .u32 t102 (shl .u32 (Go.bits .xor .u32 t101 t103) (ji6)))) = some r := H
          have A13 := Aside0.mk A130
          clear A130
          have c14b0 := eq_true (of_decide_eq_true (by first | (with_reducible assumption) | assumption) : 0 ≤ (ji6))
          obtain ⟨ji15, hji15⟩ : ∃ j_ : Int, (shl .u32 (Go.bits .xor .u32 t101 t103) (ji6)) = j_ := ⟨_, rfl⟩
          replace H : (some (Go.bits .or .u32 t102 (ji15))) = some r := by first | (rw [hji15] at H; exact H) | (simp only [hji15] at H ⊢; exact H)
          (try rw [hji15] at A11)
          (try rw [hji15] at A12)
          (try rw [hji15] at A13)
          have hji15_ : (IntKind.u32.wrap ((Go.bits .xor .u32 t101 t103) * 2 ^ min (ji6).toNat 32)) = ji15 := hji15
          have hji15z : (ji6) ≤ 32 → (IntKind.u32.wrap ((Go.bits .xor .u32 t101 t103) * 2 ^ (ji6).toNat)) = ji15 := shl_small hji15
          obtain rfl := Option.some.inj H
          go_wp2_with (first | (go_at_call 173; (with_reducible refine (ih kj2 (by have := HJ2.out; omega) ji10 ji6 t101 _ A11.out).mono ?_); rintro e w' ⟨rfl, ⟨nd, rfl⟩⟩; (try first | exact ⟨rfl, _, World.drewN_drewN _ _ _⟩ | exact ⟨rfl, _, Eq.trans (World.drewN_drewN _ _ _) (congrArg (World.drewN _) (Nat.add_assoc _ _ _))⟩)) | (go_at_call 173; (with_reducible refine (ih kj2 (by have := HJ2.out; omega) t101 ji6 t102 _ A12.out).mono ?_); rintro e w' ⟨rfl, ⟨nd, rfl⟩⟩; (try first | exact ⟨rfl, _, World.drewN_drewN _ _ _⟩ | exact ⟨rfl, _, Eq.trans (World.drewN_drewN _ _ _) (congrArg (World.drewN _) (Nat.add_assoc _ _ _))⟩)) | (go_at_call 173; (with_reducible refine (ih kj2 (by have := HJ2.out; omega) (Go.bits .and .u32 a0 (((ji8) - 1) % 4294967296)) ji6 t103 _ A13.out).mono ?_); rintro e w' ⟨rfl, ⟨nd, rfl⟩⟩; (try first | exact ⟨rfl, _, World.drewN_drewN _ _ _⟩ | exact ⟨rfl, _, Eq.trans (World.drewN_drewN _ _ _) (congrArg (World.drewN _) (Nat.add_assoc _ _ _))⟩)))
          repeat (go_quiet (first | (go_at_call 173; (with_reducible refine (ih kj2 (by have := HJ2.out; omega) ji10 ji6 t101 _ A11.out).mono ?_); rintro e w' ⟨rfl, ⟨nd, rfl⟩⟩; (try first | exact ⟨rfl, _, World.drewN_drewN _ _ _⟩ | exact ⟨rfl, _, Eq.trans (World.drewN_drewN _ _ _) (congrArg (World.drewN _) (Nat.add_assoc _ _ _))⟩)) | (go_at_call 173; (with_reducible refine (ih kj2 (by have := HJ2.out; omega) t101 ji6 t102 _ A12.out).mono ?_); rintro e w' ⟨rfl, ⟨nd, rfl⟩⟩; (try first | exact ⟨rfl, _, World.drewN_drewN _ _ _⟩ | exact ⟨rfl, _, Eq.trans (World.drewN_drewN _ _ _) (congrArg (World.drewN _) (Nat.add_assoc _ _ _))⟩)) | (go_at_call 173; (with_reducible refine (ih kj2 (by have := HJ2.out; omega) (Go.bits .and .u32 a0 (((ji8) - 1) % 4294967296)) ji6 t103 _ A13.out).mono ?_); rintro e w' ⟨rfl, ⟨nd, rfl⟩⟩; (try first | exact ⟨rfl, _, World.drewN_drewN _ _ _⟩ | exact ⟨rfl, _, Eq.trans (World.drewN_drewN _ _ _) (congrArg (World.drewN _) (Nat.add_assoc _ _ _))⟩))); try go_wp2_with (first | (go_at_call 173; (with_reducible refine (ih kj2 (by have := HJ2.out; omega) ji10 ji6 t101 _ A11.out).mono ?_); rintro e w' ⟨rfl, ⟨nd, rfl⟩⟩; (try first | exact ⟨rfl, _, World.drewN_drewN _ _ _⟩ | exact ⟨rfl, _, Eq.trans (World.drewN_drewN _ _ _) (congrArg (World.drewN _) (Nat.add_assoc _ _ _))⟩)) | (go_at_call 173; (with_reducible refine (ih kj2 (by have := HJ2.out; omega) t101 ji6 t102 _ A12.out).mono ?_); rintro e w' ⟨rfl, ⟨nd, rfl⟩⟩; (try first | exact ⟨rfl, _, World.drewN_drewN _ _ _⟩ | exact ⟨rfl, _, Eq.trans (World.drewN_drewN _ _ _) (congrArg (World.drewN _) (Nat.add_assoc _ _ _))⟩)) | (go_at_call 173; (with_reducible refine (ih kj2 (by have := HJ2.out; omega) (Go.bits .and .u32 a0 (((ji8) - 1) % 4294967296)) ji6 t103 _ A13.out).mono ?_); rintro e w' ⟨rfl, ⟨nd, rfl⟩⟩; (try first | exact ⟨rfl, _, World.drewN_drewN _ _ _⟩ | exact ⟨rfl, _, Eq.trans (World.drewN_drewN _ _ _) (congrArg (World.drewN _) (Nat.add_assoc _ _ _))⟩))))
          go_ret
          exact ⟨by first | rfl | (simp; done) | (simp only [← hji6, ← hji8, ← hji10, ← hji15] <;> (first | rfl | simp)) | (simp [*]; done), by repeat (first | exact Drawn0.refl _ | apply Drawn0.step)⟩
        · rw [if_neg c7] at H
          exact absurd H (by simp)
end Go.Proofs.Ytadfobooofkelaa.X

-- Laid by wip/xprint.py of this session (the kit's print program, with some contracts given by hand). Not trusted: Lean checks it.
namespace Go.Proofs.Ytadfobooofkelaa.X
open Go.RowKit Go.Proofs.YtadfobooofkelaaW.PrintWords Go.Proofs.YtadfobooofkelaaW.PrintLast Go.Proofs.YtadfobooofkelaaW.PrintMore
attribute [local go_sem] max2_int min2_int max_two min_two max_three min_three max_four min_four
set_option linter.unusedVariables false
set_option linter.unusedSimpArgs false
mutual
def impl_product.j0 : Nat → Int → Int → Int → Bool → Option (Int)
  | 0, _, _, _, _ => none
  | k + 1, x0, x1, x2, x16 => if x16 = true then (some 0) else (if x0 = 1 then (some x1) else (if x1 = 1 then (some x0) else (if 0 ≤ (wrap64 (Int.tdiv x2 2)) then (if (shr .u32 x0 (wrap64 (Int.tdiv x2 2))) = 0 then (impl_product.j1 k (wrap64 (Int.tdiv x2 2)) (Go.bits .and .u32 x0 (((shl .u32 1 (wrap64 (Int.tdiv x2 2))) - 1) % 4294967296)) (shr .u32 x0 (wrap64 (Int.tdiv x2 2))) (Go.bits .and .u32 x1 (((shl .u32 1 (wrap64 (Int.tdiv x2 2))) - 1) % 4294967296)) (shr .u32 x1 (wrap64 (Int.tdiv x2 2))) ((shr .u32 x1 (wrap64 (Int.tdiv x2 2))) == 0)) else (impl_product.j1 k (wrap64 (Int.tdiv x2 2)) (Go.bits .and .u32 x0 (((shl .u32 1 (wrap64 (Int.tdiv x2 2))) - 1) % 4294967296)) (shr .u32 x0 (wrap64 (Int.tdiv x2 2))) (Go.bits .and .u32 x1 (((shl .u32 1 (wrap64 (Int.tdiv x2 2))) - 1) % 4294967296)) (shr .u32 x1 (wrap64 (Int.tdiv x2 2))) false)) else (none))))
def impl_product.j1 : Nat → Int → Int → Int → Int → Int → Bool → Option (Int)
  | 0, _, _, _, _, _, _ => none
  | k + 1, x7, x9, x10, x11, x12, x53 => if x53 = true then ((impl_product.f k x9 x11 x7).bind fun t101 => (some t101)) else ((impl_product.f k x10 x12 x7).bind fun t102 => ((impl_product.f k x9 x11 x7).bind fun t103 => ((impl_product.f k (Go.bits .xor .u32 x9 x10) (Go.bits .xor .u32 x11 x12) x7).bind fun t104 => (if 0 ≤ x7 then ((impl_half.f k t102 x7).bind fun t105 => (some (Go.bits .xor .u32 (Go.bits .or .u32 (shl .u32 (Go.bits .xor .u32 t104 t103) x7) t103) t105))) else (none)))))
def impl_product.f : Nat → Int → Int → Int → Option (Int)
  | 0, _, _, _ => none
  | k + 1, a0, a1, a2 => if a0 = 0 then (impl_product.j0 k a0 a1 a2 true) else (impl_product.j0 k a0 a1 a2 (a1 == 0))
end
theorem impl_product.mono_l : ∀ k, (∀ y0 y1 y2, LeO (impl_product.f k y0 y1 y2) (impl_product.f (k + 1) y0 y1 y2)) ∧ (∀ y0 y1 y2 y3, LeO (impl_product.j0 k y0 y1 y2 y3) (impl_product.j0 (k + 1) y0 y1 y2 y3)) ∧ (∀ y0 y1 y2 y3 y4 y5, LeO (impl_product.j1 k y0 y1 y2 y3 y4 y5) (impl_product.j1 (k + 1) y0 y1 y2 y3 y4 y5))
  | 0 => ⟨fun _ _ _ r h => by simp [impl_product.f] at h, fun _ _ _ _ r h => by simp [impl_product.j0] at h, fun _ _ _ _ _ _ r h => by simp [impl_product.j1] at h⟩
  | k + 1 => by
    obtain ⟨ih0, ih1, ih2⟩ := impl_product.mono_l k
    refine ⟨?_, ?_, ?_⟩
    · intro y0 y1 y2
      unfold impl_product.f
      repeat' first
      | (with_reducible refine LeO.anyO (fun _ => ?_))
      | (with_reducible exact ih0 _ _ _)
      | (with_reducible exact ih1 _ _ _ _)
      | (with_reducible exact ih2 _ _ _ _ _ _)
      | (with_reducible exact impl_half.mono _ _ _)
      | (with_reducible exact LeO.refl _)
      | (with_reducible exact LeO.none _)
      | (with_reducible refine LeO.ite ?_ ?_)
      | (with_reducible refine LeO.bind ?_ (fun _ => ?_))
      | exact ih0 _ _ _
      | exact ih1 _ _ _ _
      | exact ih2 _ _ _ _ _ _
      | exact impl_half.mono _ _ _
      | exact LeO.none _
      | refine LeO.ite ?_ ?_
      | refine LeO.bind ?_ (fun _ => ?_)
    · intro y0 y1 y2 y3
      unfold impl_product.j0
      repeat' first
      | (with_reducible refine LeO.anyO (fun _ => ?_))
      | (with_reducible exact ih0 _ _ _)
      | (with_reducible exact ih1 _ _ _ _)
      | (with_reducible exact ih2 _ _ _ _ _ _)
      | (with_reducible exact impl_half.mono _ _ _)
      | (with_reducible exact LeO.refl _)
      | (with_reducible exact LeO.none _)
      | (with_reducible refine LeO.ite ?_ ?_)
      | (with_reducible refine LeO.bind ?_ (fun _ => ?_))
      | exact ih0 _ _ _
      | exact ih1 _ _ _ _
      | exact ih2 _ _ _ _ _ _
      | exact impl_half.mono _ _ _
      | exact LeO.none _
      | refine LeO.ite ?_ ?_
      | refine LeO.bind ?_ (fun _ => ?_)
    · intro y0 y1 y2 y3 y4 y5
      unfold impl_product.j1
      repeat' first
      | (with_reducible refine LeO.anyO (fun _ => ?_))
      | (with_reducible exact ih0 _ _ _)
      | (with_reducible exact ih1 _ _ _ _)
      | (with_reducible exact ih2 _ _ _ _ _ _)
      | (with_reducible exact impl_half.mono _ _ _)
      | (with_reducible exact LeO.refl _)
      | (with_reducible exact LeO.none _)
      | (with_reducible refine LeO.ite ?_ ?_)
      | (with_reducible refine LeO.bind ?_ (fun _ => ?_))
      | exact ih0 _ _ _
      | exact ih1 _ _ _ _
      | exact ih2 _ _ _ _ _ _
      | exact impl_half.mono _ _ _
      | exact LeO.none _
      | refine LeO.ite ?_ ?_
      | refine LeO.bind ?_ (fun _ => ?_)
theorem impl_product.mono : ∀ a0 a1 a2 k, LeO (impl_product.f k a0 a1 a2) (impl_product.f (k + 1) a0 a1 a2) := by
  intro a0 a1 a2 k
  obtain ⟨ih0, ih1, ih2⟩ := impl_product.mono_l k
  exact ih0 a0 a1 a2
set_option maxHeartbeats 8000000 in
set_option maxRecDepth 100000 in
theorem impl_product.calls (k : Nat) : ∀ (a0 : Int) (a1 : Int) (a2 : Int) (r : Int) (w : World) (h : impl_product.f k a0 a1 a2 = some r),
    Calls Try.prog 152 #[.int .u32 a0, .int .u32 a1, .int .i64 a2] w fun e w' => e = .returned (.int .u32 r) ∧ Drawn0 w w' := by
  induction k using Nat.strongRecOn with
  | _ k ih =>
  intro a0 a1 a2 r w h
  cases k with
  | zero => exact absurd h (by simp [impl_product.f])
  | succ k =>
  simp only [impl_product.f] at h
  have H : (if a0 = 0 then (impl_product.j0 k a0 a1 a2 true) else (impl_product.j0 k a0 a1 a2 (a1 == 0))) = some r := h
  clear h
  have HC4 := Aside0.mk H
  clear H
  go_enter Try.func152, Try.ntmps152
  go_upto_region 1 with (fail)
  repeat (go_quiet (fail); go_upto_region 1 with (fail))
  go_cut [16] (fun v16 wc => ∃ (kq : Nat) (x16_3 : Bool), v16 = .bool x16_3 ∧ Aside0 (impl_product.j0 kq a0 a1 a2 x16_3 = some r) ∧ Aside0 (kq ≤ k) ∧ Drawn0 w wc)
  case first =>
    have H := HC4.out
    clear HC4
    by_cases c5 : a0 = 0
    · rw [if_pos c5] at H
      have c5b0 : (a0 == 0) = true := beq_iff_eq.mpr c5
      have c5b1 : (a0 != 0) = false := bne_eq_false_iff_eq.mpr c5
      clear c5
      (first | rw [c5b0] | (simp only [i64_w, i32_w]; rw [c5b0]) | skip)
      have H' := Aside0.mk H
      clear H
      go_wp2
      repeat (go_quiet (fail); try go_wp2)
      go_meet
      case rel => exact ⟨_, (true), (by first | rfl | (simp; done) | (simp [*]; done)), H', ⟨by first | omega | exact Nat.le_refl _⟩, by repeat (first | exact Drawn0.refl _ | apply Drawn0.step)⟩
    · rw [if_neg c5] at H
      have c5b0 : (a0 == 0) = false := beq_eq_false_iff_ne.mpr c5
      have c5b1 : (a0 != 0) = true := bne_iff_ne.mpr c5
      (first | rw [c5b0] | (simp only [i64_w, i32_w]; rw [c5b0]) | skip)
      have H' := Aside0.mk H
      clear H
      go_wp2
      repeat (go_quiet (fail); try go_wp2)
      go_meet
      case rel => exact ⟨_, ((a1 == 0)), (by first | rfl | (simp; done) | (simp [*]; done)), H', ⟨by first | omega | exact Nat.le_refl _⟩, by repeat (first | exact Drawn0.refl _ | apply Drawn0.step)⟩
  case rest =>
    clear HC4
    try clear c1
    try clear p2
    try clear c5
    try clear c5b0
    try clear c5b1
    obtain ⟨kq, x16_3, rfl, HA, HJ3, ⟨mc3, rfl⟩⟩ := hcut
    cases kq with
    | zero => exact absurd HA.out (by simp [impl_product.j0])
    | succ kj3 =>
      have H := HA.out
      clear HA
      simp only [impl_product.j0] at H
      by_cases c6 : x16_3 = true
      · subst c6
        have H1 : (some 0) = some r := by rw [if_pos rfl] at H; exact H
        clear H
        have H := H1
        clear H1
        obtain rfl := Option.some.inj H
        go_wp2
        repeat (go_quiet (fail); try go_wp2)
        go_ret
        exact ⟨by first | rfl | (simp; done) | (simp [*]; done), by repeat (first | exact Drawn0.refl _ | apply Drawn0.step)⟩
      · replace c6 := Bool.eq_false_iff.mpr c6
        subst c6
        have H1 : (if a0 = 1 then (some a1) else (if a1 = 1 then (some a0) else (if 0 ≤ (wrap64 (Int.tdiv a2 2)) then (if (shr .u32 a0 (wrap64 (Int.tdiv a2 2))) = 0 then (impl_product.j1 kj3 (wrap64 (Int.tdiv a2 2)) (Go.bits .and .u32 a0 (((shl .u32 1 (wrap64 (Int.tdiv a2 2))) - 1) % 4294967296)) (shr .u32 a0 (wrap64 (Int.tdiv a2 2))) (Go.bits .and .u32 a1 (((shl .u32 1 (wrap64 (Int.tdiv a2 2))) - 1) % 4294967296)) (shr .u32 a1 (wrap64 (Int.tdiv a2 2))) ((shr .u32 a1 (wrap64 (Int.tdiv a2 2))) == 0)) else (impl_product.j1 kj3 (wrap64 (Int.tdiv a2 2)) (Go.bits .and .u32 a0 (((shl .u32 1 (wrap64 (Int.tdiv a2 2))) - 1) % 4294967296)) (shr .u32 a0 (wrap64 (Int.tdiv a2 2))) (Go.bits .and .u32 a1 (((shl .u32 1 (wrap64 (Int.tdiv a2 2))) - 1) % 4294967296)) (shr .u32 a1 (wrap64 (Int.tdiv a2 2))) false)) else (none)))) = some r := by rw [if_neg (show ¬ (false = true) by decide)] at H; exact H
        clear H
        have H := H1
        clear H1
        by_cases c7 : a0 = 1
        · rw [if_pos c7] at H
          have c7b0 : (a0 == 1) = true := beq_iff_eq.mpr c7
          have c7b1 : (a0 != 1) = false := bne_eq_false_iff_eq.mpr c7
          clear c7
          obtain rfl := Option.some.inj H
          go_wp2
          repeat (go_quiet (fail); try go_wp2)
          go_ret
          exact ⟨by first | rfl | (simp; done) | (simp [*]; done), by repeat (first | exact Drawn0.refl _ | apply Drawn0.step)⟩
        · rw [if_neg c7] at H
          have c7b0 : (a0 == 1) = false := beq_eq_false_iff_ne.mpr c7
          have c7b1 : (a0 != 1) = true := bne_iff_ne.mpr c7
          by_cases c8 : a1 = 1
          · rw [if_pos c8] at H
            have c8b0 : (a1 == 1) = true := beq_iff_eq.mpr c8
            have c8b1 : (a1 != 1) = false := bne_eq_false_iff_eq.mpr c8
            clear c8
            obtain rfl := Option.some.inj H
            go_wp2
            repeat (go_quiet (fail); try go_wp2)
            go_ret
            exact ⟨by first | rfl | (simp; done) | (simp [*]; done), by repeat (first | exact Drawn0.refl _ | apply Drawn0.step)⟩
          · rw [if_neg c8] at H
            have c8b0 : (a1 == 1) = false := beq_eq_false_iff_ne.mpr c8
            have c8b1 : (a1 != 1) = true := bne_iff_ne.mpr c8
            obtain ⟨ji9, hji9⟩ : ∃ j_ : Int, (wrap64 (Int.tdiv a2 2)) = j_ := ⟨_, rfl⟩
            replace H : (if 0 ≤ (ji9) then (if (shr .u32 a0 (ji9)) = 0 then (impl_product.j1 kj3 ji9 (Go.bits .and .u32 a0 (((shl .u32 1 (ji9)) - 1) % 4294967296)) (shr .u32 a0 (ji9)) (Go.bits .and .u32 a1 (((shl .u32 1 (ji9)) - 1) % 4294967296)) (shr .u32 a1 (ji9)) ((shr .u32 a1 (ji9)) == 0)) else (impl_product.j1 kj3 ji9 (Go.bits .and .u32 a0 (((shl .u32 1 (ji9)) - 1) % 4294967296)) (shr .u32 a0 (ji9)) (Go.bits .and .u32 a1 (((shl .u32 1 (ji9)) - 1) % 4294967296)) (shr .u32 a1 (ji9)) false)) else (none)) = some r := by first | (rw [hji9] at H; exact H) | (simp only [hji9] at H ⊢; exact H)
            have hji9w : (IntKind.i64.wrap (Int.tdiv a2 2)) = ji9 := (i64_w _).trans hji9
            by_cases c10 : 0 ≤ (ji9)
            · rw [if_pos c10] at H
              have c10b0 := eq_true c10
              have c10b1 : decide (0 ≤ (ji9)) = true := decide_eq_true c10
              clear c10
              obtain ⟨ji11, hji11⟩ : ∃ j_ : Int, (shl .u32 1 (ji9)) = j_ := ⟨_, rfl⟩
              replace H : (if (shr .u32 a0 (ji9)) = 0 then (impl_product.j1 kj3 ji9 (Go.bits .and .u32 a0 (((ji11) - 1) % 4294967296)) (shr .u32 a0 (ji9)) (Go.bits .and .u32 a1 (((ji11) - 1) % 4294967296)) (shr .u32 a1 (ji9)) ((shr .u32 a1 (ji9)) == 0)) else (impl_product.j1 kj3 ji9 (Go.bits .and .u32 a0 (((ji11) - 1) % 4294967296)) (shr .u32 a0 (ji9)) (Go.bits .and .u32 a1 (((ji11) - 1) % 4294967296)) (shr .u32 a1 (ji9)) false)) = some r := by first | (rw [hji11] at H; exact H) | (simp only [hji11] at H ⊢; exact H)
              have hji11_ : (IntKind.u32.wrap (1 * 2 ^ min (ji9).toNat 32)) = ji11 := hji11
              have hji11z : (ji9) ≤ 32 → (IntKind.u32.wrap (1 * 2 ^ (ji9).toNat)) = ji11 := shl_small hji11
              have hji11u : (IntKind.u32.wrap (2 ^ min (ji9).toNat 32)) = ji11 := by have h_ := hji11_; rw [Int.one_mul] at h_; exact h_
              have hji11v : (ji9) ≤ 32 → (IntKind.u32.wrap (2 ^ (ji9).toNat)) = ji11 := fun hle_ => by have h_ := hji11z hle_; rw [Int.one_mul] at h_; exact h_
              have c12b0 := eq_true (of_decide_eq_true (by first | (with_reducible assumption) | assumption) : 0 ≤ (ji9))
              obtain ⟨ji13, hji13⟩ : ∃ j_ : Int, (shr .u32 a0 (ji9)) = j_ := ⟨_, rfl⟩
              replace H : (if (ji13) = 0 then (impl_product.j1 kj3 ji9 (Go.bits .and .u32 a0 (((ji11) - 1) % 4294967296)) ji13 (Go.bits .and .u32 a1 (((ji11) - 1) % 4294967296)) (shr .u32 a1 (ji9)) ((shr .u32 a1 (ji9)) == 0)) else (impl_product.j1 kj3 ji9 (Go.bits .and .u32 a0 (((ji11) - 1) % 4294967296)) ji13 (Go.bits .and .u32 a1 (((ji11) - 1) % 4294967296)) (shr .u32 a1 (ji9)) false)) = some r := by first | (rw [hji13] at H; exact H) | (simp only [hji13] at H ⊢; exact H)
              have hji13_ : (a0 / 2 ^ min (ji9).toNat 32) = ji13 := hji13
              have hji13z : (ji9) ≤ 32 → (a0 / 2 ^ (ji9).toNat) = ji13 := shr_small hji13
              have c14b0 := eq_true (of_decide_eq_true (by first | (with_reducible assumption) | assumption) : 0 ≤ (ji9))
              obtain ⟨ji15, hji15⟩ : ∃ j_ : Int, (shr .u32 a1 (ji9)) = j_ := ⟨_, rfl⟩
              replace H : (if (ji13) = 0 then (impl_product.j1 kj3 ji9 (Go.bits .and .u32 a0 (((ji11) - 1) % 4294967296)) ji13 (Go.bits .and .u32 a1 (((ji11) - 1) % 4294967296)) ji15 ((ji15) == 0)) else (impl_product.j1 kj3 ji9 (Go.bits .and .u32 a0 (((ji11) - 1) % 4294967296)) ji13 (Go.bits .and .u32 a1 (((ji11) - 1) % 4294967296)) ji15 false)) = some r := by first | (rw [hji15] at H; exact H) | (simp only [hji15] at H ⊢; exact H)
              have hji15_ : (a1 / 2 ^ min (ji9).toNat 32) = ji15 := hji15
              have hji15z : (ji9) ≤ 32 → (a1 / 2 ^ (ji9).toNat) = ji15 := shr_small hji15
              have HC16 := Aside0.mk H
              clear H
              go_upto_region 10 with (fail)
              repeat (go_quiet (fail); go_upto_region 10 with (fail))
              go_cut [53] (fun v53 wc => ∃ (kq : Nat) (x53_15 : Bool), v53 = .bool x53_15 ∧ Aside0 (impl_product.j1 kq ji9 (Go.bits .and .u32 a0 (((ji11) - 1) % 4294967296)) ji13 (Go.bits .and .u32 a1 (((ji11) - 1) % 4294967296)) ji15 x53_15 = some r) ∧ Aside0 (kq ≤ kj3) ∧ Drawn0 w wc)
              case first =>
                have H := HC16.out
                clear HC16
                by_cases c17 : (ji13) = 0
                · rw [if_pos c17] at H
                  have c17b0 : ((ji13) == 0) = true := beq_iff_eq.mpr c17
                  have c17b1 : ((ji13) != 0) = false := bne_eq_false_iff_eq.mpr c17
                  clear c17
                  (first | rw [c17b0] | (simp only [i64_w, i32_w]; rw [c17b0]) | skip)
                  have H' := Aside0.mk H
                  clear H
                  go_wp2
                  repeat (go_quiet (fail); try go_wp2)
                  go_meet
                  case rel => exact ⟨_, (((ji15) == 0)), (by first | rfl | (simp; done) | (simp only [← hji15] <;> (first | rfl | simp)) | (simp [*]; done)), H', ⟨by have := HJ3.out; first | omega | exact Nat.le_refl _⟩, by repeat (first | exact Drawn0.refl _ | apply Drawn0.step)⟩
                · rw [if_neg c17] at H
                  have c17b0 : ((ji13) == 0) = false := beq_eq_false_iff_ne.mpr c17
                  have c17b1 : ((ji13) != 0) = true := bne_iff_ne.mpr c17
                  (first | rw [c17b0] | (simp only [i64_w, i32_w]; rw [c17b0]) | skip)
                  have H' := Aside0.mk H
                  clear H
                  go_wp2
                  repeat (go_quiet (fail); try go_wp2)
                  go_meet
                  case rel => exact ⟨_, (false), (by first | rfl | (simp; done) | (simp [*]; done)), H', ⟨by have := HJ3.out; first | omega | exact Nat.le_refl _⟩, by repeat (first | exact Drawn0.refl _ | apply Drawn0.step)⟩
              case rest =>
                clear HC16
                try clear c1
                try clear p2
                try clear c3
                try clear c5
                try clear c5b0
                try clear c5b1
                try clear c6
                try clear p6
                try clear c7
                try clear c7b0
                try clear c7b1
                try clear c8
                try clear c8b0
                try clear c8b1
                try clear c10
                try clear c10b0
                try clear c10b1
                try clear c12
                try clear c12b0
                try clear c14
                try clear c14b0
                try clear c15
                try clear c17
                try clear c17b0
                try clear c17b1
                try clear p2
                obtain ⟨kq, x53_15, rfl, HA, HJ15, ⟨mc15, rfl⟩⟩ := hcut
                cases kq with
                | zero => exact absurd HA.out (by simp [impl_product.j1])
                | succ kj15 =>
                  have H := HA.out
                  clear HA
                  simp only [impl_product.j1] at H
                  by_cases c18 : x53_15 = true
                  · subst c18
                    have H1 : ((impl_product.f kj15 (Go.bits .and .u32 a0 (((ji11) - 1) % 4294967296)) (Go.bits .and .u32 a1 (((ji11) - 1) % 4294967296)) ji9).bind fun t101 => (some t101)) = some r := by rw [if_pos rfl] at H; exact H
                    clear H
                    have H := H1
                    clear H1
                    replace H := Option.bind_eq_some_iff.mp H
                    obtain ⟨t101, A190, H⟩ := H
                    replace H : (some t101) = some r := H
                    have A19 := Aside0.mk A190
                    clear A190
                    obtain rfl := Option.some.inj H
                    go_wp2_with (first | (go_at_call 152; (with_reducible refine (ih kj15 (by have := HJ3.out; have := HJ15.out; omega) (Go.bits .and .u32 a0 (((ji11) - 1) % 4294967296)) (Go.bits .and .u32 a1 (((ji11) - 1) % 4294967296)) ji9 t101 _ A19.out).mono ?_); rintro e w' ⟨rfl, ⟨nd, rfl⟩⟩; (try first | exact ⟨rfl, _, World.drewN_drewN _ _ _⟩ | exact ⟨rfl, _, Eq.trans (World.drewN_drewN _ _ _) (congrArg (World.drewN _) (Nat.add_assoc _ _ _))⟩)))
                    repeat (go_quiet (first | (go_at_call 152; (with_reducible refine (ih kj15 (by have := HJ3.out; have := HJ15.out; omega) (Go.bits .and .u32 a0 (((ji11) - 1) % 4294967296)) (Go.bits .and .u32 a1 (((ji11) - 1) % 4294967296)) ji9 t101 _ A19.out).mono ?_); rintro e w' ⟨rfl, ⟨nd, rfl⟩⟩; (try first | exact ⟨rfl, _, World.drewN_drewN _ _ _⟩ | exact ⟨rfl, _, Eq.trans (World.drewN_drewN _ _ _) (congrArg (World.drewN _) (Nat.add_assoc _ _ _))⟩))); try go_wp2_with (first | (go_at_call 152; (with_reducible refine (ih kj15 (by have := HJ3.out; have := HJ15.out; omega) (Go.bits .and .u32 a0 (((ji11) - 1) % 4294967296)) (Go.bits .and .u32 a1 (((ji11) - 1) % 4294967296)) ji9 t101 _ A19.out).mono ?_); rintro e w' ⟨rfl, ⟨nd, rfl⟩⟩; (try first | exact ⟨rfl, _, World.drewN_drewN _ _ _⟩ | exact ⟨rfl, _, Eq.trans (World.drewN_drewN _ _ _) (congrArg (World.drewN _) (Nat.add_assoc _ _ _))⟩))))
                    go_ret
                    exact ⟨by first | rfl | (simp; done) | (simp only [← hji9, ← hji11, ← hji13, ← hji15] <;> (first | rfl | simp)) | (simp [*]; done), by repeat (first | exact Drawn0.refl _ | apply Drawn0.step)⟩
                  · replace c18 := Bool.eq_false_iff.mpr c18
                    subst c18
                    have H1 : ((impl_product.f kj15 ji13 ji15 ji9).bind fun t102 => ((impl_product.f kj15 (Go.bits .and .u32 a0 (((ji11) - 1) % 4294967296)) (Go.bits .and .u32 a1 (((ji11) - 1) % 4294967296)) ji9).bind fun t103 => ((impl_product.f kj15 (Go.bits .xor .u32 (Go.bits .and .u32 a0 (((ji11) - 1) % 4294967296)) ji13) (Go.bits .xor .u32 (Go.bits .and .u32 a1 (((ji11) - 1) % 4294967296)) ji15) ji9).bind fun t104 => (if 0 ≤ ji9 then ((impl_half.f kj15 t102 ji9).bind fun t105 => (some (Go.bits .xor .u32 (Go.bits .or .u32 (shl .u32 (Go.bits .xor .u32 t104 t103) ji9) t103) t105))) else (none))))) = some r := by rw [if_neg (show ¬ (false = true) by decide)] at H; exact H
                    clear H
                    have H := H1
                    clear H1
                    replace H := Option.bind_eq_some_iff.mp H
                    obtain ⟨t102, A200, H⟩ := H
                    replace H : ((impl_product.f kj15 (Go.bits .and .u32 a0 (((ji11) - 1) % 4294967296)) (Go.bits .and .u32 a1 (((ji11) - 1) % 4294967296)) ji9).bind fun t103 => ((impl_product.f kj15 (Go.bits .xor .u32 (Go.bits .and .u32 a0 (((ji11) - 1) % 4294967296)) ji13) (Go.bits .xor .u32 (Go.bits .and .u32 a1 (((ji11) - 1) % 4294967296)) ji15) ji9).bind fun t104 => (if 0 ≤ ji9 then ((impl_half.f kj15 t102 ji9).bind fun t105 => (some (Go.bits .xor .u32 (Go.bits .or .u32 (shl .u32 (Go.bits .xor .u32 t104 t103) ji9) t103) t105))) else (none)))) = some r := H
                    have A20 := Aside0.mk A200
                    clear A200
                    replace H := Option.bind_eq_some_iff.mp H
                    obtain ⟨t103, A210, H⟩ := H
                    replace H : ((impl_product.f kj15 (Go.bits .xor .u32 (Go.bits .and .u32 a0 (((ji11) - 1) % 4294967296)) ji13) (Go.bits .xor .u32 (Go.bits .and .u32 a1 (((ji11) - 1) % 4294967296)) ji15) ji9).bind fun t104 => (if 0 ≤ ji9 then ((impl_half.f kj15 t102 ji9).bind fun t105 => (some (Go.bits .xor .u32 (Go.bits .or .u32 (shl .u32 (Go.bits .xor .u32 t104 t103) ji9) t103) t105))) else (none))) = some r := H
                    have A21 := Aside0.mk A210
                    clear A210
                    replace H := Option.bind_eq_some_iff.mp H
                    obtain ⟨t104, A220, H⟩ := H
                    replace H : (if 0 ≤ ji9 then ((impl_half.f kj15 t102 ji9).bind fun t105 => (some (Go.bits .xor .u32 (Go.bits .or .u32 (shl .u32 (Go.bits .xor .u32 t104 t103) ji9) t103) t105))) else (none)) = some r := H
                    have A22 := Aside0.mk A220
                    clear A220
                    by_cases c23 : 0 ≤ ji9
                    · rw [if_pos c23] at H
                      have c23b0 := eq_true c23
                      have c23b1 : decide (0 ≤ ji9) = true := decide_eq_true c23
                      clear c23
                      obtain ⟨ji24, hji24⟩ : ∃ j_ : Int, (shl .u32 (Go.bits .xor .u32 t104 t103) ji9) = j_ := ⟨_, rfl⟩
                      replace H : ((impl_half.f kj15 t102 ji9).bind fun t105 => (some (Go.bits .xor .u32 (Go.bits .or .u32 (ji24) t103) t105))) = some r := by first | (rw [hji24] at H; exact H) | (simp only [hji24] at H ⊢; exact H)
                      (try rw [hji24] at A20)
                      (try rw [hji24] at A21)
                      (try rw [hji24] at A22)
                      have hji24_ : (IntKind.u32.wrap ((Go.bits .xor .u32 t104 t103) * 2 ^ min ji9.toNat 32)) = ji24 := hji24
                      have hji24z : ji9 ≤ 32 → (IntKind.u32.wrap ((Go.bits .xor .u32 t104 t103) * 2 ^ ji9.toNat)) = ji24 := shl_small hji24
                      replace H := Option.bind_eq_some_iff.mp H
                      obtain ⟨t105, A250, H⟩ := H
                      replace H : (some (Go.bits .xor .u32 (Go.bits .or .u32 (ji24) t103) t105)) = some r := H
                      have A25 := Aside0.mk A250
                      clear A250
                      obtain rfl := Option.some.inj H
                      go_wp2_with (first | (go_at_call 152; (with_reducible refine (ih kj15 (by have := HJ3.out; have := HJ15.out; omega) ji13 ji15 ji9 t102 _ A20.out).mono ?_); rintro e w' ⟨rfl, ⟨nd, rfl⟩⟩; (try first | exact ⟨rfl, _, World.drewN_drewN _ _ _⟩ | exact ⟨rfl, _, Eq.trans (World.drewN_drewN _ _ _) (congrArg (World.drewN _) (Nat.add_assoc _ _ _))⟩)) | (go_at_call 152; (with_reducible refine (ih kj15 (by have := HJ3.out; have := HJ15.out; omega) (Go.bits .and .u32 a0 (((ji11) - 1) % 4294967296)) (Go.bits .and .u32 a1 (((ji11) - 1) % 4294967296)) ji9 t103 _ A21.out).mono ?_); rintro e w' ⟨rfl, ⟨nd, rfl⟩⟩; (try first | exact ⟨rfl, _, World.drewN_drewN _ _ _⟩ | exact ⟨rfl, _, Eq.trans (World.drewN_drewN _ _ _) (congrArg (World.drewN _) (Nat.add_assoc _ _ _))⟩)) | (go_at_call 152; (with_reducible refine (ih kj15 (by have := HJ3.out; have := HJ15.out; omega) (Go.bits .xor .u32 (Go.bits .and .u32 a0 (((ji11) - 1) % 4294967296)) ji13) (Go.bits .xor .u32 (Go.bits .and .u32 a1 (((ji11) - 1) % 4294967296)) ji15) ji9 t104 _ A22.out).mono ?_); rintro e w' ⟨rfl, ⟨nd, rfl⟩⟩; (try first | exact ⟨rfl, _, World.drewN_drewN _ _ _⟩ | exact ⟨rfl, _, Eq.trans (World.drewN_drewN _ _ _) (congrArg (World.drewN _) (Nat.add_assoc _ _ _))⟩)) | (go_at_call 173; (with_reducible refine (impl_half.calls kj15 t102 ji9 t105 _ A25.out).mono ?_); rintro e w' ⟨rfl, ⟨nd, rfl⟩⟩; (try first | exact ⟨rfl, _, World.drewN_drewN _ _ _⟩ | exact ⟨rfl, _, Eq.trans (World.drewN_drewN _ _ _) (congrArg (World.drewN _) (Nat.add_assoc _ _ _))⟩)))
                      repeat (go_quiet (first | (go_at_call 152; (with_reducible refine (ih kj15 (by have := HJ3.out; have := HJ15.out; omega) ji13 ji15 ji9 t102 _ A20.out).mono ?_); rintro e w' ⟨rfl, ⟨nd, rfl⟩⟩; (try first | exact ⟨rfl, _, World.drewN_drewN _ _ _⟩ | exact ⟨rfl, _, Eq.trans (World.drewN_drewN _ _ _) (congrArg (World.drewN _) (Nat.add_assoc _ _ _))⟩)) | (go_at_call 152; (with_reducible refine (ih kj15 (by have := HJ3.out; have := HJ15.out; omega) (Go.bits .and .u32 a0 (((ji11) - 1) % 4294967296)) (Go.bits .and .u32 a1 (((ji11) - 1) % 4294967296)) ji9 t103 _ A21.out).mono ?_); rintro e w' ⟨rfl, ⟨nd, rfl⟩⟩; (try first | exact ⟨rfl, _, World.drewN_drewN _ _ _⟩ | exact ⟨rfl, _, Eq.trans (World.drewN_drewN _ _ _) (congrArg (World.drewN _) (Nat.add_assoc _ _ _))⟩)) | (go_at_call 152; (with_reducible refine (ih kj15 (by have := HJ3.out; have := HJ15.out; omega) (Go.bits .xor .u32 (Go.bits .and .u32 a0 (((ji11) - 1) % 4294967296)) ji13) (Go.bits .xor .u32 (Go.bits .and .u32 a1 (((ji11) - 1) % 4294967296)) ji15) ji9 t104 _ A22.out).mono ?_); rintro e w' ⟨rfl, ⟨nd, rfl⟩⟩; (try first | exact ⟨rfl, _, World.drewN_drewN _ _ _⟩ | exact ⟨rfl, _, Eq.trans (World.drewN_drewN _ _ _) (congrArg (World.drewN _) (Nat.add_assoc _ _ _))⟩)) | (go_at_call 173; (with_reducible refine (impl_half.calls kj15 t102 ji9 t105 _ A25.out).mono ?_); rintro e w' ⟨rfl, ⟨nd, rfl⟩⟩; (try first | exact ⟨rfl, _, World.drewN_drewN _ _ _⟩ | exact ⟨rfl, _, Eq.trans (World.drewN_drewN _ _ _) (congrArg (World.drewN _) (Nat.add_assoc _ _ _))⟩))); try go_wp2_with (first | (go_at_call 152; (with_reducible refine (ih kj15 (by have := HJ3.out; have := HJ15.out; omega) ji13 ji15 ji9 t102 _ A20.out).mono ?_); rintro e w' ⟨rfl, ⟨nd, rfl⟩⟩; (try first | exact ⟨rfl, _, World.drewN_drewN _ _ _⟩ | exact ⟨rfl, _, Eq.trans (World.drewN_drewN _ _ _) (congrArg (World.drewN _) (Nat.add_assoc _ _ _))⟩)) | (go_at_call 152; (with_reducible refine (ih kj15 (by have := HJ3.out; have := HJ15.out; omega) (Go.bits .and .u32 a0 (((ji11) - 1) % 4294967296)) (Go.bits .and .u32 a1 (((ji11) - 1) % 4294967296)) ji9 t103 _ A21.out).mono ?_); rintro e w' ⟨rfl, ⟨nd, rfl⟩⟩; (try first | exact ⟨rfl, _, World.drewN_drewN _ _ _⟩ | exact ⟨rfl, _, Eq.trans (World.drewN_drewN _ _ _) (congrArg (World.drewN _) (Nat.add_assoc _ _ _))⟩)) | (go_at_call 152; (with_reducible refine (ih kj15 (by have := HJ3.out; have := HJ15.out; omega) (Go.bits .xor .u32 (Go.bits .and .u32 a0 (((ji11) - 1) % 4294967296)) ji13) (Go.bits .xor .u32 (Go.bits .and .u32 a1 (((ji11) - 1) % 4294967296)) ji15) ji9 t104 _ A22.out).mono ?_); rintro e w' ⟨rfl, ⟨nd, rfl⟩⟩; (try first | exact ⟨rfl, _, World.drewN_drewN _ _ _⟩ | exact ⟨rfl, _, Eq.trans (World.drewN_drewN _ _ _) (congrArg (World.drewN _) (Nat.add_assoc _ _ _))⟩)) | (go_at_call 173; (with_reducible refine (impl_half.calls kj15 t102 ji9 t105 _ A25.out).mono ?_); rintro e w' ⟨rfl, ⟨nd, rfl⟩⟩; (try first | exact ⟨rfl, _, World.drewN_drewN _ _ _⟩ | exact ⟨rfl, _, Eq.trans (World.drewN_drewN _ _ _) (congrArg (World.drewN _) (Nat.add_assoc _ _ _))⟩))))
                      go_ret
                      exact ⟨by first | rfl | (simp; done) | (simp only [← hji9, ← hji11, ← hji13, ← hji15, ← hji24] <;> (first | rfl | simp)) | (simp [*]; done), by repeat (first | exact Drawn0.refl _ | apply Drawn0.step)⟩
                    · rw [if_neg c23] at H
                      exact absurd H (by simp)
            · rw [if_neg c10] at H
              exact absurd H (by simp)
end Go.Proofs.Ytadfobooofkelaa.X

-- Laid by wip/xprint.py of this session (the kit's print program, with some contracts given by hand). Not trusted: Lean checks it.
namespace Go.Proofs.Ytadfobooofkelaa.X
open Go.RowKit Go.Proofs.YtadfobooofkelaaW.PrintWords Go.Proofs.YtadfobooofkelaaW.PrintLast Go.Proofs.YtadfobooofkelaaW.PrintMore
attribute [local go_sem] max2_int min2_int max_two min_two max_three min_three max_four min_four
set_option linter.unusedVariables false
set_option linter.unusedSimpArgs false
def impl_times.f (k : Nat) (a0 : Int) (a1 : Int) : Option (Int) := (impl_product.f k ((a0) % 4294967296) ((a1) % 4294967296) 16).bind fun t101 => (some (IntKind.u16.wrap (t101)))
set_option maxHeartbeats 8000000 in
set_option maxRecDepth 100000 in
theorem impl_times.calls (k : Nat) (a0 : Int) (a1 : Int) (r : Int) (w : World) (h : impl_times.f k a0 a1 = some r) :
    Calls Try.prog 90 #[.int .u16 a0, .int .u16 a1] w fun e w' => e = .returned (.int .u16 r) ∧ Drawn0 w w' := by
  have H : ((impl_product.f k ((a0) % 4294967296) ((a1) % 4294967296) 16).bind fun t101 => (some (IntKind.u16.wrap (t101)))) = some r := h
  clear h
  replace H := Option.bind_eq_some_iff.mp H
  obtain ⟨t101, A30, H⟩ := H
  replace H : (some (IntKind.u16.wrap (t101))) = some r := H
  have A3 := Aside0.mk A30
  clear A30
  obtain rfl := Option.some.inj H
  go_enter Try.func90, Try.ntmps90
  go_wp2_with (first | ((with_reducible refine gate_callee (f := 152) rfl ?_); refine goesL_ (some 9) rfl rfl Try.func152 (by kernel_rfl) rfl #[.int .u32 ((a0) % 4294967296), .int .u32 ((a1) % 4294967296), .int .i64 16] rfl (by (try simp only [List.map_toArray, List.map_cons, List.map_nil]); first | done | rfl | (simp only [List.length_drop, List.length_take]; rfl)) ?_; (with_reducible refine (impl_product.calls k ((a0) % 4294967296) ((a1) % 4294967296) 16 t101 _ A3.out).mono ?_); rintro e w' ⟨rfl, ⟨nd, rfl⟩⟩; refine ⟨_, rfl, ?_⟩))
  go_ret
  exact ⟨by first | rfl | (simp; done) | (simp [*]; done), by repeat (first | exact Drawn0.refl _ | apply Drawn0.step)⟩
end Go.Proofs.Ytadfobooofkelaa.X

namespace Go.Proofs.Ytadfobooofkelaa.X
set_option linter.unusedSimpArgs false
set_option linter.unusedVariables false
open Go.RowKit Go.Proofs.YtadfobooofkelaaW.PrintWords Go.Proofs.YtadfobooofkelaaW.PrintLast Go.Proofs.YtadfobooofkelaaW.PrintMore Go.Sort Go.Lib
section
variable {α : Type} [Inhabited α] {d : Kd α} {enc : α → List Value} {e : Nat} {w w0 w' W : World} {base g cap : Nat} {cur : Array Value} {ok : Nat → Prop} {v : Value} {l l' : List α}
theorem srt_flat (k : Nat) (hk : ∀ x, (enc x).length = k) (l : Array α) (j : Nat) (hj : j < l.size) : ((flatK enc k l).toList.drop (j * k)).take k = enc l[j]! := by
  have hb : j * k + k ≤ l.size * k := by
    have := Nat.mul_le_mul_right k (show j + 1 ≤ l.size from hj); rwa [Nat.add_mul, Nat.one_mul] at this
  refine List.ext_getElem (by rw [List.length_take, List.length_drop, Array.length_toList, size_flatK, hk]; omega) (fun i h1 h2 => ?_)
  rw [hk] at h2
  have k0 : 0 < k := by omega
  rw [List.getElem_take, List.getElem_drop, Array.getElem_toList]
  have hlt : j * k + i < l.size * k := by omega
  have e1 : (j * k + i) / k = j := (blk_iff k j _ k0).1 ⟨by omega, by omega⟩
  have e2 : (j * k + i) % k = i := by rw [Nat.mod_eq_sub_div_mul, e1]; omega
  have h := get_flatK enc k l (j * k + i) hlt
  rw [e1, e2, getElem!_pos _ _ (by rw [size_flatK]; exact hlt)] at h
  rw [h, getElem!_pos]
theorem srt_row (k0 : 0 < d.sz) (hk : ∀ x, (enc x).length = d.sz) (hM : ∀ {w base ok x cs}, d.M w base ok x cs → cs = enc x) (h : d.R e w base ok v l) (hn : 0 < l.length) :
    ∃ g cap cur, v = .slice (some ⟨g, 0, none⟩) l.length cap ∧ base ≤ g ∧ g < w.heap.size ∧ ok g ∧ w.heap[g]? = some (.cells cur e (0, 0)) ∧ l.length ≤ cap ∧ cap ≤ maxLen ∧ cur.size = cap * d.sz ∧ cur.toList.take (l.length * d.sz) = (flatK enc d.sz l.toArray).toList := by
  obtain ⟨h0, inner, ⟨hil, ho⟩, hr⟩ := h
  rcases ho with ⟨_, hz⟩ | ⟨g, cap, cur, rfl, hg, hh, hc, hm, hs, ht⟩
  · omega
  refine ⟨g, cap, cur, rfl, hg, ?_, h0 g (by simp [Value.ownBlock]), hh, hc, hm, hs, ?_⟩
  · exact (Array.getElem?_eq_some_iff.1 hh).1
  rw [ht]
  have hfl : (flatK enc d.sz l.toArray).toList.length = l.length * d.sz := by rw [Array.length_toList, size_flatK]; simp
  refine List.ext_getElem (by rw [hil, hfl]) (fun i h1 h2 => ?_)
  rw [hil] at h1
  have hj : i / d.sz < l.length := Nat.div_lt_of_lt_mul (by rw [Nat.mul_comm]; exact h1)
  have e0 := Nat.div_add_mod i d.sz
  have hm2 := Nat.mod_lt i k0
  have r1 := hM (hr.2 (i / d.sz) l[i / d.sz] (List.getElem?_eq_getElem hj))
  have r2 := srt_flat d.sz hk l.toArray (i / d.sz) (by simpa using hj)
  have e3 : l.toArray[i / d.sz]! = l[i / d.sz] := by rw [getElem!_pos _ _ (by simpa using hj)]; simp
  rw [e3, ← r1] at r2
  have hb : i / d.sz * d.sz + d.sz ≤ l.length * d.sz := by
    have := Nat.mul_le_mul_right d.sz (show i / d.sz + 1 ≤ l.length from hj); rwa [Nat.add_mul, Nat.one_mul] at this
  have key : ∀ (xs : List Value) (hx : i < xs.length), ((xs.drop (i / d.sz * d.sz)).take d.sz)[i % d.sz]? = xs[i]? := by
    intro xs hx
    rw [List.getElem?_take, if_pos hm2, List.getElem?_drop, Nat.mul_comm (i / d.sz), e0]
  have k1 := key inner (by rw [hil]; exact h1)
  have k2 := key (flatK enc d.sz l.toArray).toList (by rw [hfl]; exact h1)
  rw [← r2, k2, List.getElem?_eq_getElem (by rw [hfl]; exact h1), List.getElem?_eq_getElem (by rw [hil]; exact h1)] at k1
  exact (Option.some.inj k1).symm
theorem srt_holds (hh : w.heap[g]? = some (.cells cur e (0, 0))) (F : Array Value) (n : Nat) (hF : F.size = n) (ht : cur.toList.take n = F.toList) : Holds id w g 0 F := by
  intro j hj
  have h1 : cur[j]? = some F[j]! := by
    have e1 : (cur.toList.take n)[j]? = F.toList[j]? := by rw [ht]
    rw [List.getElem?_take, if_pos (by omega)] at e1
    rw [getElem!_pos F j hj]
    simpa [hj] using e1
  refine ⟨?_, ?_⟩
  · simp [World.cell?, hh, h1]
  · simp [World.frozen?, hh]
theorem srt_back (k0 : 0 < d.sz) (hk : ∀ x, (enc x).length = d.sz) (hM2 : ∀ {w base ok x}, d.M w base ok x (enc x)) (hb : base ≤ g) (hlt : g < w.heap.size) (hok : ok g) (hh : w.heap[g]? = some (.cells cur e (0, 0))) (hc : l.length ≤ cap) (hm : cap ≤ maxLen) (hs : cur.size = cap * d.sz)
    (dd : Array α) (hd : dd.size = l.length) (n : Nat) (os : Array Obj) :
    d.R e (sortWorldK enc d.sz w g 0 n dd os) base ok (.slice (some ⟨g, 0, none⟩) l.length cap) dd.toList ∧ (∀ i, i < w.heap.size → i ≠ g → (sortWorldK enc d.sz w g 0 n dd os).heap[i]? = w.heap[i]?) ∧ w.heap.size ≤ (sortWorldK enc d.sz w g 0 n dd os).heap.size := by
  have hheap : ∀ i, i < w.heap.size → (sortWorldK enc d.sz w g 0 n dd os).heap[i]? = (w.heap.modify g (onCells (putCells id 0 (flatK enc d.sz dd))))[i]? := by
    intro i hi
    show ((w.heap.modify g (onCells (putCells id 0 (flatK enc d.sz dd)))) ++ os)[i]? = _
    rw [Array.getElem?_append, if_pos (by simpa using hi)]
  have hg : (sortWorldK enc d.sz w g 0 n dd os).heap[g]? = some (.cells (putCells id 0 (flatK enc d.sz dd) cur) e (0, 0)) := by
    rw [hheap g hlt, Array.getElem?_modify, if_pos rfl, hh]
    rfl
  have hsz : (putCells id 0 (flatK enc d.sz dd) cur).size = cap * d.sz := by simp [putCells, hs]
  have hle : l.length * d.sz ≤ cap * d.sz := Nat.mul_le_mul_right _ hc
  have htk : (putCells id 0 (flatK enc d.sz dd) cur).toList.take (l.length * d.sz) = (flatK enc d.sz dd).toList := by
    refine List.ext_getElem (by
      have h1 : (flatK enc d.sz dd).toList.length = l.length * d.sz := by simp [hd]
      have h2 : (putCells id 0 (flatK enc d.sz dd) cur).toList.length = cap * d.sz := by simpa using hsz
      rw [h1, List.length_take, h2]; omega) (fun i h1 h2 => ?_)
    have h3 : i < l.length * d.sz := by simpa [hd] using h2
    have h4 : i < (flatK enc d.sz dd).size := by simpa using h2
    rw [List.getElem_take, Array.getElem_toList, Array.getElem_toList]
    simp only [putCells, Array.getElem_mapIdx, Nat.zero_add, Nat.sub_zero, id]
    rw [if_pos ⟨Nat.zero_le _, h4⟩]
    exact getElem!_pos (flatK enc d.sz dd) i h4
  refine ⟨⟨fun k hk2 => ?_, (flatK enc d.sz dd).toList, ⟨by simp, .inr ⟨g, cap, _, by simp [hd], hb, hg, by simpa [hd] using hc, hm, hsz, by simpa [hd] using htk⟩⟩, by simp, fun j p hj => ?_⟩, fun i hi hne => ?_, ?_⟩
  · have : g = k := by simpa [Value.ownBlock] using hk2
    subst this
    exact hok
  · have hjl : j < dd.size := by
      have := (List.getElem?_eq_some_iff.1 hj).1
      simpa using this
    have hp : p = dd[j]! := by
      rw [getElem!_pos dd j hjl]
      have := hj
      simp [hjl] at this
      exact this.symm
    rw [srt_flat d.sz hk dd j hjl, hp]
    exact hM2
  · rw [hheap i hi, Array.getElem?_modify, if_neg (fun h => hne h.symm)]
  · show w.heap.size ≤ ((w.heap.modify g (onCells (putCells id 0 (flatK enc d.sz dd)))) ++ os).size
    simp
theorem srt_below {k n : Nat} {dd : Array α} {os : Array Obj} (hb : w0.heap.size ≤ g) (hB : Below w0.heap.size w0 w) (hk : ∀ i, i < w.heap.size → i ≠ g → (sortWorldK enc k w g 0 n dd os).heap[i]? = w.heap[i]?) (hs : w.heap.size ≤ (sortWorldK enc k w g 0 n dd os).heap.size) : Below w0.heap.size w0 (sortWorldK enc k w g 0 n dd os) :=
  ⟨hB.os, hB.tape, hB.output, Nat.le_trans hB.size hs, fun i hi => (hk i (Nat.lt_of_lt_of_le hi hB.size) (by omega)).trans (hB.block i hi)⟩
end
end Go.Proofs.Ytadfobooofkelaa.X

namespace Go.Proofs
open Go.Shelf
def Try.sortImg_ren : Go.Shelf.Ren := ⟨fun | 6 => 154 | 15 => 172 | 14 => 174 | 28 => 188 | 29 => 189 | 20 => 190 | 21 => 191 | 22 => 192 | 23 => 193 | 24 => 194 | 25 => 195 | 26 => 196 | 27 => 197 | 46 => 204 | 47 => 199 | 48 => 200 | 49 => 205 | 50 => 206 | 57 => 208 | n => n, fun | 22 => 173 | 24 => 175 | 25 => 177 | 3 => 3 | 39 => 92 | 0 => 0 | 53 => 171 | 55 => 178 | 4 => 4 | 46 => 207 | 45 => 206 | 50 => 212 | 5 => 5 | 9 => 9 | 66 => 221 | 70 => 225 | 76 => 230 | 77 => 231 | n => n, fun | n => n⟩
theorem Try.sortImg : Go.Proofs.SlLaysF0.n6 Try.prog Try.sortImg_ren := {
  mixed := by kernel_rfl
  f6 := ⟨Try.f154.name, by decide, Try.func154.trans (congrArg some (by kernel_rfl))⟩
  f14 := ⟨Try.f174.name, by decide, Try.func174.trans (congrArg some (by kernel_rfl))⟩
  f15 := Try.func172.trans (congrArg some (by kernel_rfl))
  f20 := ⟨Try.f190.name, by decide, Try.func190.trans (congrArg some (by kernel_rfl))⟩
  f21 := ⟨Try.f191.name, by decide, Try.func191.trans (congrArg some (by kernel_rfl))⟩
  f22 := ⟨Try.f192.name, by decide, Try.func192.trans (congrArg some (by kernel_rfl))⟩
  f23 := ⟨Try.f193.name, by decide, Try.func193.trans (congrArg some (by kernel_rfl))⟩
  f24 := ⟨Try.f194.name, by decide, Try.func194.trans (congrArg some (by kernel_rfl))⟩
  f25 := ⟨Try.f195.name, by decide, Try.func195.trans (congrArg some (by kernel_rfl))⟩
  f26 := ⟨Try.f196.name, by decide, Try.func196.trans (congrArg some (by kernel_rfl))⟩
  f27 := ⟨Try.f197.name, by decide, Try.func197.trans (congrArg some (by kernel_rfl))⟩
  f28 := Try.func188.trans (congrArg some (by kernel_rfl))
  f29 := Try.func189.trans (congrArg some (by kernel_rfl))
  f46 := ⟨Try.f204.name, by decide, Try.func204.trans (congrArg some (by kernel_rfl))⟩
  f47 := Try.func199.trans (congrArg some (by kernel_rfl))
  f48 := Try.func200.trans (congrArg some (by kernel_rfl))
  f49 := ⟨Try.f205.name, by decide, Try.func205.trans (congrArg some (by kernel_rfl))⟩
  f50 := ⟨Try.f206.name, by decide, Try.func206.trans (congrArg some (by kernel_rfl))⟩
  f57 := ⟨Try.f208.name, by decide, Try.func208.trans (congrArg some (by kernel_rfl))⟩
  t0 := Try.underlying0
  a0 := Try.isAgg0
  z0 := Try.sizeOf0
  v0 := Try.zeroValue0
  t3 := Try.underlying3
  a3 := Try.isAgg3
  z3 := Try.sizeOf3
  v3 := Try.zeroValue3
  t4 := Try.underlying4
  a4 := Try.isAgg4
  z4 := Try.sizeOf4
  v4 := Try.zeroValue4
  t5 := Try.underlying5
  a5 := Try.isAgg5
  z5 := Try.sizeOf5
  v5 := Try.zeroValue5
  t9 := Try.underlying9
  a9 := Try.isAgg9
  z9 := Try.sizeOf9
  v9 := Try.zeroValue9
  t22 := Try.underlying173
  a22 := Try.isAgg173
  z22 := Try.sizeOf173
  v22 := Try.zeroValue173
  t25 := Try.underlying177
  a25 := Try.isAgg177
  z25 := Try.sizeOf177
  v25 := Try.zeroValue177
  t39 := Try.underlying92
  a39 := Try.isAgg92
  z39 := Try.sizeOf92
  v39 := Try.zeroValue92
  t45 := Try.underlying206
  a45 := Try.isAgg206
  z45 := Try.sizeOf206
  v45 := Try.zeroValue206
  t46 := Try.underlying207
  a46 := Try.isAgg207
  z46 := Try.sizeOf207
  v46 := Try.zeroValue207
  t50 := Try.underlying212
  a50 := Try.isAgg212
  z50 := Try.sizeOf212
  v50 := Try.zeroValue212
  t53 := Try.underlying171
  a53 := Try.isAgg171
  z53 := Try.sizeOf171
  v53 := Try.zeroValue171
  t55 := Try.underlying178
  a55 := Try.isAgg178
  z55 := Try.sizeOf178
  v55 := Try.zeroValue178
  t66 := Try.underlying221
  a66 := Try.isAgg221
  z66 := Try.sizeOf221
  v66 := Try.zeroValue221
  t70 := Try.underlying225
  a70 := Try.isAgg225
  z70 := Try.sizeOf225
  v70 := Try.zeroValue225
  t76 := Try.underlying230
  a76 := Try.isAgg230
  z76 := Try.sizeOf230
  v76 := Try.zeroValue230
  t77 := Try.underlying231
  a77 := Try.isAgg231
  z77 := Try.sizeOf231
  v77 := Try.zeroValue231 }
end Go.Proofs

namespace Go.Proofs.Ytadfobooofkelaa.X
set_option linter.unusedSimpArgs false
set_option linter.unusedVariables false
open Go.RowKit Go.Proofs.YtadfobooofkelaaW.PrintWords Go.Proofs.YtadfobooofkelaaW.PrintLast Go.Proofs.YtadfobooofkelaaW.PrintMore Go.Sort Go.Lib
abbrev Im := Fin 65536 × Int
def toIm (x : S175) : Im := (⟨x.f0.toNat % 65536, Nat.mod_lt _ (by decide)⟩, x.f1)
def ofIm (x : Im) : S175 := ⟨(x.1.val : Int), x.2⟩
def encIm (x : Im) : List Value := [.int .u16 (x.1.val : Int), .int .u16 x.2]
def cfIm (x y : Im) : Int := (y.1.val : Int) - (x.1.val : Int)
theorem ofIm_to (x : S175) (h : 0 ≤ x.f0 ∧ x.f0 < 65536) : ofIm (toIm x) = x := by
  obtain ⟨a, b⟩ := x
  simp only [ofIm, toIm, S175.mk.injEq, and_true] at h ⊢
  omega
theorem ltIm (x y : Im) : ltOf cfIm x y = decide (y.1.val < x.1.val) := by
  unfold ltOf cfIm
  by_cases h : y.1.val < x.1.val
  · rw [decide_eq_true h, decide_eq_true (by omega)]
  · rw [decide_eq_false h, decide_eq_false (by omega)]
theorem swoIm : SWO (ltOf cfIm) where
  irrefl x := by rw [ltIm]; simp
  trans x y z h1 h2 := by rw [ltIm] at *; simp at *; omega
  ntrans x y z h1 h2 := by rw [ltIm] at *; simp at *; omega
set_option maxHeartbeats 1000000 in
theorem closure155 (x y : Im) (W : World) : Calls Try.prog 155 #[.agg #[.int .u16 (x.1.val : Int), .int .u16 x.2], .agg #[.int .u16 (y.1.val : Int), .int .u16 y.2]] W fun e w' => e = .returned (.int .i64 (cfIm x y)) ∧ ∃ q os', w' = grow (W.drewN q) os' := by
  have hx := x.1.isLt
  have hy := y.1.isLt
  have e1 : wrap64 ((wrap64 (y.1.val : Int)) - (wrap64 (x.1.val : Int))) = cfIm x y := by unfold cfIm wrap64; omega
  generalize (x.1.val : Int) = a at e1 ⊢
  generalize (y.1.val : Int) = b at e1 ⊢
  generalize cfIm x y = r at e1 ⊢
  have E1 := Aside0.mk e1
  clear e1 hx hy
  go_enter Try.func155, Try.ntmps155
  go_wp2
  go_ret
  exact ⟨congrArg (fun z => Ending.returned (.int .i64 z)) E1.out, 0, _, by rw [alloc_eq_grow, alloc_eq_grow, grow_grow]; rfl⟩
theorem R_iso {α β : Type} {d : Kd α} {f : β → α} {e base : Nat} {ok : Nat → Prop} {w : World} {v : Value} {xs : List β} : (Kd.iso d f).R e w base ok v xs ↔ d.R e w base ok v (xs.map f) := by
  constructor
  · rintro ⟨h0, inner, ho, hr⟩
    refine ⟨h0, inner, by rw [List.length_map]; exact ho, by rw [List.length_map]; exact hr.1, fun j p hj => ?_⟩
    rw [List.getElem?_map, Option.map_eq_some_iff] at hj
    obtain ⟨q, hq, rfl⟩ := hj
    exact hr.2 j q hq
  · rintro ⟨h0, inner, ho, hr⟩
    rw [List.length_map] at ho
    refine ⟨h0, inner, ho, by have := hr.1; rw [List.length_map] at this; exact this, fun j p hj => ?_⟩
    exact hr.2 j (f p) (by rw [List.getElem?_map, hj]; rfl)
def srtIm (l : List S175) : List S175 := (Sort.pdq (ltOf cfIm) (l.map toIm).toArray 0 l.length (Lib.bitLen l.length) true true).toList.map ofIm
def inIm (l : List S175) : Bool := decide (0 < l.length) && decide (l.length < 4611686018427387904) && l.all fun x => decide (0 ≤ x.f0 ∧ x.f0 < 65536)
theorem map_im (l : List S175) (h : (l.all fun x => decide (0 ≤ x.f0 ∧ x.f0 < 65536)) = true) : (l.map toIm).map ofIm = l := by
  rw [List.all_eq_true] at h
  rw [List.map_map]
  conv => rhs; rw [← List.map_id l]
  exact List.map_congr_left (fun x hx => ofIm_to x (of_decide_eq_true (h x hx)))
set_option maxHeartbeats 1000000 in
theorem hand_SortFunc (P0_ : Nat → Prop) (u9000_ : Value) (l0 : List S175) (w0 w : World) (hB : Below w0.heap.size w0 w) (ho0 : Kd.R k175 175 w w0.heap.size P0_ u9000_ l0) (h : inIm l0 = true) :
    Calls Try.prog 154 #[u9000_, .func (.func 155) #[] #[]] w fun e w' => e = .returned (.tuple #[]) ∧ Kd.R k175 175 w' w0.heap.size (fun k_ => (P0_ k_ ∨ w.heap.size ≤ k_)) u9000_ (srtIm l0) ∧ Below w0.heap.size w0 w' ∧ Kept w w' (fun k_ => P0_ k_) := by
  rw [inIm, Bool.and_eq_true, Bool.and_eq_true, decide_eq_true_eq, decide_eq_true_eq] at h
  obtain ⟨⟨hn, hsz⟩, hall⟩ := h
  have hm := map_im l0 hall
  have hr : Kd.R (Kd.iso k175 ofIm) 175 w w0.heap.size P0_ u9000_ (l0.map toIm) := R_iso.2 (by rw [hm]; exact ho0)
  have hk : ∀ x, (encIm x).length = (Kd.iso k175 ofIm).sz := fun x => rfl
  obtain ⟨g, cap, cur, rfl, hg, hlt, hok, hh, hc, hmx, hs, ht⟩ := srt_row (enc := encIm) (by decide) hk (fun {w base ok x cs} hM => k175_openM hM) hr (by simpa using hn)
  have hH : HoldsK encIm 2 w g 0 (l0.map toIm).toArray := srt_holds hh _ ((l0.map toIm).length * (Kd.iso k175 ofIm).sz) (by rw [size_flatK]; simp; rfl) ht
  have eg : ∀ args w, (callFunc 155 args).run Try.prog w = .ok (.enter 155 args) w := enters_of Try.func155 (by kernel_rfl) rfl
  have hcon := AnyQ.slices_SortFunc_eq Try.sortImg 2 Try.isAgg175 Try.sizeOf175 encIm (fun _ => rfl) (fun x v hv => by simp [encIm] at hv; rcases hv with rfl | rfl <;> rfl) cfIm swoIm 155 #[] g 0 cap (l0.map toIm).toArray w eg (fun _ _ _ _ x y => closure155 x y _) hH hlt (by simpa using hsz)
  have hps := pdq_sorts (ltOf cfIm) swoIm (l0.map toIm).toArray 0 (l0.map toIm).toArray.size (Lib.bitLen (l0.map toIm).toArray.size) true true (Nat.zero_le _) (Nat.le_refl _) (Or.inl rfl)
  have e1 : (l0.map toIm).toArray.size = (l0.map toIm).length := by simp
  have e2 : (l0.map toIm).length = l0.length := by simp
  refine Calls.mono (by rw [e1] at hcon; exact hcon) ?_
  rintro e w' ⟨rfl, n, os, rfl⟩
  have hd : (pdq (ltOf cfIm) (l0.map toIm).toArray 0 (l0.map toIm).length (Lib.bitLen (l0.map toIm).length) true true).size = (l0.map toIm).length := by rw [e1] at hps; exact hps.1.1
  obtain ⟨b1, b2, b3⟩ := srt_back (d := Kd.iso k175 ofIm) (enc := encIm) (by decide) hk (fun {w base ok x} => k175_mkM w base ok (ofIm x)) hg hlt hok hh hc hmx hs _ hd n os
  refine ⟨rfl, ?_, srt_below hg hB b2 b3, b3, fun i hi hne => b2 i hi (fun he => hne (he ▸ hok))⟩
  have b4 := R_iso.1 b1
  rw [e2] at b4
  have : srtIm l0 = (pdq (ltOf cfIm) (l0.map toIm).toArray 0 l0.length (Lib.bitLen l0.length) true true).toList.map ofIm := rfl
  rw [this]
  refine Kd.R_mono ?_ (fun k hk2 => .inl hk2)
  have h2 : (Kd.iso k175 ofIm).sz = 2 := rfl
  rw [h2] at b4
  simpa using b4
def bitsLenF (a0 : Int) : Option Int := if 0 ≤ a0 ∧ a0 < 18446744073709551616 then some ((Lib.bitLen a0.toNat : Nat) : Int) else none
theorem hand_bitsLen (a0 r : Int) (w : World) (h : bitsLenF a0 = some r) : Calls Try.prog 172 #[.int .u64 a0] w fun e w' => e = .returned (.int .i64 r) ∧ w' = w := by
  unfold bitsLenF at h
  by_cases hc : 0 ≤ a0 ∧ a0 < 18446744073709551616
  · rw [if_pos hc] at h
    cases h
    exact Any.bits_Len (SlLaysF0.n15.bits (P := Try.prog) (ρ := Try.sortImg_ren) { Try.sortImg with }) a0 w (by omega) (by omega)
  · rw [if_neg hc] at h
    cases h
end Go.Proofs.Ytadfobooofkelaa.X

-- Laid by wip/xprint.py of this session (the kit's print program, with some contracts given by hand). Not trusted: Lean checks it.
namespace Go.Proofs.Ytadfobooofkelaa.X
open Go.RowKit Go.Proofs.YtadfobooofkelaaW.PrintWords Go.Proofs.YtadfobooofkelaaW.PrintLast Go.Proofs.YtadfobooofkelaaW.PrintMore
attribute [local go_sem] max2_int min2_int max_two min_two max_three min_three max_four min_four
set_option linter.unusedVariables false
set_option linter.unusedSimpArgs false
-- IMPORT Derived.Test.YtadfobooofkelaaHsort
-- the contract lies in the text named above (wip/c2h); the literal is halfRoot's one
def impl_image.f (l0 : List S175) : Option (List S175) := if inIm l0 = true then some (srtIm l0) else none
theorem impl_image.calls (P0_ : Nat → Prop) (u9000_ : Value) (l0 : List S175) (r : List S175) (w0 w : World) (hB : Below w0.heap.size w0 w) (ho0 : Kd.R k175 175 w w0.heap.size P0_ u9000_ l0) (h : impl_image.f l0 = some r) :
    Calls Try.prog 154 #[u9000_, .func (.func 155) #[] #[]] w fun e w' => e = .returned (.tuple #[]) ∧ Kd.R k175 175 w' w0.heap.size (fun k_ => (P0_ k_ ∨ w.heap.size ≤ k_)) u9000_ r ∧ Below w0.heap.size w0 w' ∧ Kept w w' (fun k_ => P0_ k_) := by
  unfold impl_image.f at h
  by_cases hc : inIm l0 = true
  · rw [if_pos hc] at h
    cases h
    exact hand_SortFunc P0_ u9000_ l0 w0 w hB ho0 hc
  · rw [if_neg hc] at h
    cases h
end Go.Proofs.Ytadfobooofkelaa.X

-- Laid by wip/xprint.py of this session (the kit's print program, with some contracts given by hand). Not trusted: Lean checks it.
namespace Go.Proofs.Ytadfobooofkelaa.X
open Go.RowKit Go.Proofs.YtadfobooofkelaaW.PrintWords Go.Proofs.YtadfobooofkelaaW.PrintLast Go.Proofs.YtadfobooofkelaaW.PrintMore
attribute [local go_sem] max2_int min2_int max_two min_two max_three min_three max_four min_four
set_option linter.unusedVariables false
set_option linter.unusedSimpArgs false
mutual
def impl_halfRoot.l0 : Nat → Int → List (S175) → Int → Option (Int × Bool)
  | 0, _, _, _ => none
  | k + 1, x0, x4, x5 => if x5 < 16 then (if 0 ≤ x5 then ((impl_times.f k (shl .u16 1 x5) (shl .u16 1 x5)).bind fun t104 => (impl_halfRoot.l1 k x0 x4 x5 x4 (x4.length : Int) 0 (Go.bits .xor .u16 t104 (shl .u16 1 x5)) (shl .u16 1 x5))) else (none)) else (impl_halfRoot.l2 k x0 0 x4 (x4.length : Int) 0)
def impl_halfRoot.l1 : Nat → Int → List (S175) → Int → List (S175) → Int → Int → Int → Int → Option (Int × Bool)
  | 0, _, _, _, _, _, _, _, _ => none
  | k + 1, x0, x4, x5, x27, x28, x29, x106000, x106001 => if x29 < x28 then (if 0 ≤ x29 then (if x29 < (x27.length : Int) then (if (Go.bits .xor .u16 x106000 ((rd_T175 x27 x29).f0)) < x106000 then (impl_halfRoot.l1 k x0 x4 x5 x27 x28 (wrap64 (x29 + 1)) (Go.bits .xor .u16 x106000 ((rd_T175 x27 x29).f0)) (Go.bits .xor .u16 x106001 ((rd_T175 x27 x29).f1))) else (impl_halfRoot.l1 k x0 x4 x5 x27 x28 (wrap64 (x29 + 1)) x106000 x106001)) else (none)) else (none)) else (if x106000 = 0 then (impl_halfRoot.l0 k x0 x4 (wrap64 (x5 + 1))) else (if x4.length < 35184372088832 then ((impl_image.f (x4 ++ [(⟨x106000, x106001⟩ : S175)])).bind fun t111 => (impl_halfRoot.l0 k x0 t111 (wrap64 (x5 + 1)))) else (none)))
def impl_halfRoot.l2 : Nat → Int → Int → List (S175) → Int → Int → Option (Int × Bool)
  | 0, _, _, _, _, _ => none
  | k + 1, x0, x10, x63, x64, x65 => if x65 < x64 then (if 0 ≤ x65 then (if x65 < (x63.length : Int) then (if (Go.bits .xor .u16 x0 ((rd_T175 x63 x65).f0)) < x0 then (impl_halfRoot.l2 k (Go.bits .xor .u16 x0 ((rd_T175 x63 x65).f0)) (Go.bits .xor .u16 x10 ((rd_T175 x63 x65).f1)) x63 x64 (wrap64 (x65 + 1))) else (impl_halfRoot.l2 k x0 x10 x63 x64 (wrap64 (x65 + 1)))) else (none)) else (none)) else (some (Go.bits .andNot .u16 x10 1, (x0 == 0)))
end
def impl_halfRoot.f (k : Nat) (a0 : Int) : Option (Int × Bool) := impl_halfRoot.l0 k a0 (([] : List (S175))) 1
set_option maxHeartbeats 8000000 in
set_option maxRecDepth 100000 in
theorem impl_halfRoot.calls (k : Nat) (a0 : Int) (r1 : Int) (r2 : Bool) (w : World) (h : impl_halfRoot.f k a0 = some (r1, r2)) :
    Calls Try.prog 98 #[.int .u16 a0] w fun e w' => e = .returned (.tuple #[.int .u16 r1, .bool r2]) ∧ Below w.heap.size w w' := by
  have hu175 := Try.underlying175
  have HB := Aside0.mk (Below.refl w.heap.size w)
  have H : (impl_halfRoot.l0 k a0 (([] : List (S175))) 1) = some (r1, r2) := h
  clear h
  obtain ⟨y101, hy101⟩ : ∃ y_ : List (S175), y_ = (([] : List (S175))) := ⟨_, rfl⟩
  replace H : (impl_halfRoot.l0 k a0 y101 1) = some (r1, r2) := by first | (rw [hy101]; with_reducible exact H) | (have H2_ := (Option.bind_some _ _).symm.trans H; rw [hy101]; with_reducible exact H2_) | (have H2_ := (Option.bind_some _ _).symm.trans H; with_reducible exact H2_) | with_reducible exact H | (rw [hy101]; exact H) | exact H
  have Ny101 := Aside0.mk hy101
  clear hy101
  have H' := Aside0.mk H
  clear H
  go_enter Try.func98, Try.ntmps98
  go_wp2_with (first | ((with_reducible refine gate_dst (N := 13) rfl ?_); refine Kd.R_lit k175 _ 175 ?hg (N := 13) ?hd (xs := ([] : List (S175))) (inner := []) (ok := fun _ => True) (okp := fun _ => True) ?hr ?hp (fun _ hk => hk) trivial (Below.refl _ _) (Nat.le_refl _) (by simp) ?_; (case hd => rfl); (case hg => rfl); (case hr => first | (go_simp; done) | (go_simp; rfl)); (case hp => exact (Reps.none _ _)); intro v102 w2 ho3 hb hg_ hnew_; clear hg_ hnew_; (first | rw [← Ny101.out] at ho3 | (simp only [Int.reduceToNat] at ho3; rw [← Ny101.out] at ho3)); have n0_ := Aside0.mk (Kd.R_lower ho3 (below_size (by repeat (first | (with_reducible first | exact HB.out | apply below_alloc | apply pw_below_drewN | apply below_drew1) | exact HB.out)))); have n1_ := Aside0.mk (below_step (by repeat (first | (with_reducible first | exact HB.out | apply below_alloc | apply pw_below_drewN | apply below_drew1) | exact HB.out)) hb); clear HB; have HO103 := n0_; have HB := n1_; clear n0_ n1_; clear hb ho3))
  repeat (go_quiet (first | ((with_reducible refine gate_dst (N := 13) rfl ?_); refine Kd.R_lit k175 _ 175 ?hg (N := 13) ?hd (xs := ([] : List (S175))) (inner := []) (ok := fun _ => True) (okp := fun _ => True) ?hr ?hp (fun _ hk => hk) trivial (Below.refl _ _) (Nat.le_refl _) (by simp) ?_; (case hd => rfl); (case hg => rfl); (case hr => first | (go_simp; done) | (go_simp; rfl)); (case hp => exact (Reps.none _ _)); intro v102 w2 ho3 hb hg_ hnew_; clear hg_ hnew_; (first | rw [← Ny101.out] at ho3 | (simp only [Int.reduceToNat] at ho3; rw [← Ny101.out] at ho3)); have n0_ := Aside0.mk (Kd.R_lower ho3 (below_size (by repeat (first | (with_reducible first | exact HB.out | apply below_alloc | apply pw_below_drewN | apply below_drew1) | exact HB.out)))); have n1_ := Aside0.mk (below_step (by repeat (first | (with_reducible first | exact HB.out | apply below_alloc | apply pw_below_drewN | apply below_drew1) | exact HB.out)) hb); clear HB; have HO103 := n0_; have HB := n1_; clear n0_ n1_; clear hb ho3)); try go_wp2_with (first | ((with_reducible refine gate_dst (N := 13) rfl ?_); refine Kd.R_lit k175 _ 175 ?hg (N := 13) ?hd (xs := ([] : List (S175))) (inner := []) (ok := fun _ => True) (okp := fun _ => True) ?hr ?hp (fun _ hk => hk) trivial (Below.refl _ _) (Nat.le_refl _) (by simp) ?_; (case hd => rfl); (case hg => rfl); (case hr => first | (go_simp; done) | (go_simp; rfl)); (case hp => exact (Reps.none _ _)); intro v102 w2 ho3 hb hg_ hnew_; clear hg_ hnew_; (first | rw [← Ny101.out] at ho3 | (simp only [Int.reduceToNat] at ho3; rw [← Ny101.out] at ho3)); have n0_ := Aside0.mk (Kd.R_lower ho3 (below_size (by repeat (first | (with_reducible first | exact HB.out | apply below_alloc | apply pw_below_drewN | apply below_drew1) | exact HB.out)))); have n1_ := Aside0.mk (below_step (by repeat (first | (with_reducible first | exact HB.out | apply below_alloc | apply pw_below_drewN | apply below_drew1) | exact HB.out)) hb); clear HB; have HO103 := n0_; have HB := n1_; clear n0_ n1_; clear hb ho3)))
  go_loopg [4, 5] k (fun kq v4 v5 w' => ∃ (x4_1 : List (S175)) (x5_1 : Int), v5 = .int .i64 x5_1 ∧ Aside0 (impl_halfRoot.l0 kq a0 x4_1 x5_1 = some (r1, r2)) ∧ Aside0 (kq ≤ k) ∧ Aside0 (Kd.R k175 175 w' w.heap.size (fun _ => True) v4 x4_1) ∧ Aside0 (Below w.heap.size w w'))
  case atStart => exact ⟨(y101), (1), (by first | rfl | (simp; done) | (simp [*]; done)), H', ⟨Nat.le_refl _⟩, ⟨by (with_reducible repeat (first | apply Kd.R_alloc | apply Kd.R_drewN | apply Kd.R_drew)); exact HO103.out⟩, ⟨by repeat (first | (with_reducible first | exact HB.out | apply below_alloc | apply pw_below_drewN | apply below_drew1) | exact HB.out)⟩⟩
  case round =>
    clear H'
    try clear p2
    obtain ⟨x4_1, x5_1, rfl, HA, HK1, HO_4, HB⟩ := hrel
    cases gk with
    | zero => exact absurd HA.out (by simp [impl_halfRoot.l0])
    | succ k1 =>
      have H := HA.out
      clear HA
      simp only [impl_halfRoot.l0] at H
      by_cases c4 : x5_1 < 16
      · rw [if_pos c4] at H
        have c4b0 : decide (x5_1 < 16) = true := decide_eq_true c4
        clear c4
        by_cases c5 : 0 ≤ x5_1
        · rw [if_pos c5] at H
          have c5b0 := eq_true c5
          have c5b1 : decide (0 ≤ x5_1) = true := decide_eq_true c5
          clear c5
          obtain ⟨ji6, hji6⟩ : ∃ j_ : Int, (shl .u16 1 x5_1) = j_ := ⟨_, rfl⟩
          replace H : ((impl_times.f k1 (ji6) (ji6)).bind fun t104 => (impl_halfRoot.l1 k1 a0 x4_1 x5_1 x4_1 (x4_1.length : Int) 0 (Go.bits .xor .u16 t104 (ji6)) ji6)) = some (r1, r2) := by first | (rw [hji6] at H; exact H) | (simp only [hji6] at H ⊢; exact H)
          have hji6_ : (IntKind.u16.wrap (1 * 2 ^ min x5_1.toNat 16)) = ji6 := hji6
          have hji6z : x5_1 ≤ 16 → (IntKind.u16.wrap (1 * 2 ^ x5_1.toNat)) = ji6 := shl_small hji6
          have hji6u : (IntKind.u16.wrap (2 ^ min x5_1.toNat 16)) = ji6 := by have h_ := hji6_; rw [Int.one_mul] at h_; exact h_
          have hji6v : x5_1 ≤ 16 → (IntKind.u16.wrap (2 ^ x5_1.toNat)) = ji6 := fun hle_ => by have h_ := hji6z hle_; rw [Int.one_mul] at h_; exact h_
          replace H := Option.bind_eq_some_iff.mp H
          obtain ⟨t104, A70, H⟩ := H
          replace H : (impl_halfRoot.l1 k1 a0 x4_1 x5_1 x4_1 (x4_1.length : Int) 0 (Go.bits .xor .u16 t104 (ji6)) ji6) = some (r1, r2) := H
          have A7 := Aside0.mk A70
          clear A70
          have H' := Aside0.mk H
          clear H
          go_wp2_with (first | (go_at_call 90; (with_reducible refine (impl_times.calls k1 ji6 ji6 t104 _ A7.out).mono ?_); rintro e w' ⟨rfl, ⟨nd, rfl⟩⟩; (try first | exact ⟨rfl, _, World.drewN_drewN _ _ _⟩ | exact ⟨rfl, _, Eq.trans (World.drewN_drewN _ _ _) (congrArg (World.drewN _) (Nat.add_assoc _ _ _))⟩)) | ((with_reducible refine gate_dst (N := 7) rfl ?_); refine box_event ?hg (N := 7) ?hd (cs := #[.int .u16 0, .int .u16 0]) (t := 175) ?hr ?_; (case hd => rfl); (case hg => rfl); (case hr => first | (go_simp; done) | (go_simp; rfl)); intro gb105 hg w8 hbox hb; have n0_ := Aside0.mk (Kd.R_below (Kd.R_elderB (by (with_reducible repeat (first | apply Kd.R_alloc | apply Kd.R_drewN | apply Kd.R_drew)); exact HO_4.out) gb105 (Nat.le_of_eq hg.symm)) hb); have n1_ := Aside0.mk (below_step (by repeat (first | (with_reducible first | exact HB.out | apply below_alloc | apply pw_below_drewN | apply below_drew1) | exact HB.out)) hb); have n2_ := Aside0.mk (hbox); have n3_ := Aside0.mk ((by rw [hg]; exact (below_size (by repeat (first | (with_reducible first | exact HB.out | apply below_alloc | apply pw_below_drewN | apply below_drew1) | exact HB.out))) : w.heap.size ≤ gb105)); have n4_ := Aside0.mk ((by rw [hg]; exact (below_size (by repeat (first | (with_reducible first | exact HB.out | apply below_alloc | apply pw_below_drewN | apply below_drew1) | exact HB.out))) : w.heap.size ≤ gb105)); clear HO_4; clear HB; have HO_4 := n0_; have HB := n1_; have BK105 := n2_; have GW105 := n3_; have GE105 := n4_; clear n0_ n1_ n2_ n3_ n4_; clear hb hbox hg; have hcz9_0 : w8.cell? ⟨gb105, 0, none⟩ = some (.int .u16 0) := (blk_cell BK105.out 0).trans rfl; have hcz9_1 : w8.cell? ⟨gb105, 1, none⟩ = some (.int .u16 0) := (blk_cell BK105.out 1).trans rfl; have hfz9_0 := blk_frozen BK105.out 0; have hfz9_1 := blk_frozen BK105.out 1; obtain ⟨Ao10, co10, eo10⟩ := Kd.R_slice HO_4.out; subst eo10))
          repeat (go_quiet (first | (go_at_call 90; (with_reducible refine (impl_times.calls k1 ji6 ji6 t104 _ A7.out).mono ?_); rintro e w' ⟨rfl, ⟨nd, rfl⟩⟩; (try first | exact ⟨rfl, _, World.drewN_drewN _ _ _⟩ | exact ⟨rfl, _, Eq.trans (World.drewN_drewN _ _ _) (congrArg (World.drewN _) (Nat.add_assoc _ _ _))⟩)) | ((with_reducible refine gate_dst (N := 7) rfl ?_); refine box_event ?hg (N := 7) ?hd (cs := #[.int .u16 0, .int .u16 0]) (t := 175) ?hr ?_; (case hd => rfl); (case hg => rfl); (case hr => first | (go_simp; done) | (go_simp; rfl)); intro gb105 hg w8 hbox hb; have n0_ := Aside0.mk (Kd.R_below (Kd.R_elderB (by (with_reducible repeat (first | apply Kd.R_alloc | apply Kd.R_drewN | apply Kd.R_drew)); exact HO_4.out) gb105 (Nat.le_of_eq hg.symm)) hb); have n1_ := Aside0.mk (below_step (by repeat (first | (with_reducible first | exact HB.out | apply below_alloc | apply pw_below_drewN | apply below_drew1) | exact HB.out)) hb); have n2_ := Aside0.mk (hbox); have n3_ := Aside0.mk ((by rw [hg]; exact (below_size (by repeat (first | (with_reducible first | exact HB.out | apply below_alloc | apply pw_below_drewN | apply below_drew1) | exact HB.out))) : w.heap.size ≤ gb105)); have n4_ := Aside0.mk ((by rw [hg]; exact (below_size (by repeat (first | (with_reducible first | exact HB.out | apply below_alloc | apply pw_below_drewN | apply below_drew1) | exact HB.out))) : w.heap.size ≤ gb105)); clear HO_4; clear HB; have HO_4 := n0_; have HB := n1_; have BK105 := n2_; have GW105 := n3_; have GE105 := n4_; clear n0_ n1_ n2_ n3_ n4_; clear hb hbox hg; have hcz9_0 : w8.cell? ⟨gb105, 0, none⟩ = some (.int .u16 0) := (blk_cell BK105.out 0).trans rfl; have hcz9_1 : w8.cell? ⟨gb105, 1, none⟩ = some (.int .u16 0) := (blk_cell BK105.out 1).trans rfl; have hfz9_0 := blk_frozen BK105.out 0; have hfz9_1 := blk_frozen BK105.out 1; obtain ⟨Ao10, co10, eo10⟩ := Kd.R_slice HO_4.out; subst eo10)); try go_wp2_with (first | (go_at_call 90; (with_reducible refine (impl_times.calls k1 ji6 ji6 t104 _ A7.out).mono ?_); rintro e w' ⟨rfl, ⟨nd, rfl⟩⟩; (try first | exact ⟨rfl, _, World.drewN_drewN _ _ _⟩ | exact ⟨rfl, _, Eq.trans (World.drewN_drewN _ _ _) (congrArg (World.drewN _) (Nat.add_assoc _ _ _))⟩)) | ((with_reducible refine gate_dst (N := 7) rfl ?_); refine box_event ?hg (N := 7) ?hd (cs := #[.int .u16 0, .int .u16 0]) (t := 175) ?hr ?_; (case hd => rfl); (case hg => rfl); (case hr => first | (go_simp; done) | (go_simp; rfl)); intro gb105 hg w8 hbox hb; have n0_ := Aside0.mk (Kd.R_below (Kd.R_elderB (by (with_reducible repeat (first | apply Kd.R_alloc | apply Kd.R_drewN | apply Kd.R_drew)); exact HO_4.out) gb105 (Nat.le_of_eq hg.symm)) hb); have n1_ := Aside0.mk (below_step (by repeat (first | (with_reducible first | exact HB.out | apply below_alloc | apply pw_below_drewN | apply below_drew1) | exact HB.out)) hb); have n2_ := Aside0.mk (hbox); have n3_ := Aside0.mk ((by rw [hg]; exact (below_size (by repeat (first | (with_reducible first | exact HB.out | apply below_alloc | apply pw_below_drewN | apply below_drew1) | exact HB.out))) : w.heap.size ≤ gb105)); have n4_ := Aside0.mk ((by rw [hg]; exact (below_size (by repeat (first | (with_reducible first | exact HB.out | apply below_alloc | apply pw_below_drewN | apply below_drew1) | exact HB.out))) : w.heap.size ≤ gb105)); clear HO_4; clear HB; have HO_4 := n0_; have HB := n1_; have BK105 := n2_; have GW105 := n3_; have GE105 := n4_; clear n0_ n1_ n2_ n3_ n4_; clear hb hbox hg; have hcz9_0 : w8.cell? ⟨gb105, 0, none⟩ = some (.int .u16 0) := (blk_cell BK105.out 0).trans rfl; have hcz9_1 : w8.cell? ⟨gb105, 1, none⟩ = some (.int .u16 0) := (blk_cell BK105.out 1).trans rfl; have hfz9_0 := blk_frozen BK105.out 0; have hfz9_1 := blk_frozen BK105.out 1; obtain ⟨Ao10, co10, eo10⟩ := Kd.R_slice HO_4.out; subst eo10)))
          go_loopg [29] k1 (fun kq v29 w' => ∃ (x29_2 : Int) (x106000_2 : Int) (x106001_2 : Int), v29 = .int .i64 x29_2 ∧ Aside0 (impl_halfRoot.l1 kq a0 x4_1 x5_1 x4_1 (x4_1.length : Int) x29_2 x106000_2 x106001_2 = some (r1, r2)) ∧ Aside0 (kq ≤ k1) ∧ Aside0 (Kd.R k175 175 w' w.heap.size (fun k_ => k_ ≠ gb105) (.slice Ao10 x4_1.length co10) x4_1) ∧ Aside0 (Kd.R k175 175 w' w.heap.size (fun k_ => k_ ≠ gb105) (.slice Ao10 x4_1.length co10) x4_1) ∧ Aside0 (w'.heap[gb105]? = some (.cells #[.int .u16 x106000_2, .int .u16 x106001_2] 175 (0, 0))) ∧ Aside0 (Below w.heap.size w w'))
          case atStart => exact ⟨(0), (Go.bits .xor .u16 t104 (ji6)), (ji6), (by first | rfl | (simp; done) | (simp [*]; done)), H', ⟨Nat.le_refl _⟩, ⟨by (with_reducible repeat (first | apply Kd.R_alloc | apply Kd.R_drewN | apply Kd.R_drew)); exact Kd.R_mono (Kd.R_far (p := ⟨gb105, 1, none⟩) (Kd.R_far (p := ⟨gb105, 0, none⟩) (Kd.R_mono HO_4.out (fun k_ hk => (⟨hk, hk.2⟩ : _ ∧ k_ ≠ gb105))) (fun _ hk => hk.2) (.int .u16 (Go.bits .xor .u16 t104 (ji6)))) (fun _ hk => hk.2) (.int .u16 ji6)) (fun _ hk => hk.1.2)⟩, ⟨by (with_reducible repeat (first | apply Kd.R_alloc | apply Kd.R_drewN | apply Kd.R_drew)); exact Kd.R_mono (Kd.R_far (p := ⟨gb105, 1, none⟩) (Kd.R_far (p := ⟨gb105, 0, none⟩) (Kd.R_mono HO_4.out (fun k_ hk => (⟨hk, hk.2⟩ : _ ∧ k_ ≠ gb105))) (fun _ hk => hk.2) (.int .u16 (Go.bits .xor .u16 t104 (ji6)))) (fun _ hk => hk.2) (.int .u16 ji6)) (fun _ hk => hk.1.2)⟩, ⟨by (with_reducible repeat (first | refine blk_drewN ?_ _ | refine blk_drew ?_ | refine blk_alloc ?_ _)); refine blk_put (cs := #[.int .u16 (Go.bits .xor .u16 t104 (ji6)), .int .u16 0]) ?_ 1 _ rfl; (with_reducible repeat (first | refine blk_drewN ?_ _ | refine blk_drew ?_ | refine blk_alloc ?_ _)); refine blk_put (cs := #[.int .u16 0, .int .u16 0]) ?_ 0 _ rfl; (with_reducible repeat (first | refine blk_drewN ?_ _ | refine blk_drew ?_ | refine blk_alloc ?_ _)); exact BK105.out⟩, ⟨by repeat (first | (with_reducible first | exact HB.out | apply below_alloc | apply pw_below_drewN | apply below_drew1 | refine below_set ?_ GE105.out) | exact HB.out)⟩⟩
          case round =>
            clear H'
            try clear p2
            try clear c4
            try clear c4b0
            try clear c5
            try clear c5b0
            try clear c5b1
            try clear c9
            try clear hcz9_0
            try clear hcz9_1
            try clear hfz9_0
            try clear hfz9_1
            try clear p2
            obtain ⟨x29_2, x106000_2, x106001_2, rfl, HA, HK2, HO_4, HO_27, BK105, HB⟩ := hrel
            cases gk with
            | zero => exact absurd HA.out (by simp [impl_halfRoot.l1])
            | succ k2 =>
              have H := HA.out
              clear HA
              simp only [impl_halfRoot.l1] at H
              by_cases c11 : x29_2 < (x4_1.length : Int)
              · rw [if_pos c11] at H
                have c11b0 : decide (x29_2 < (x4_1.length : Int)) = true := decide_eq_true c11
                clear c11
                by_cases c12 : 0 ≤ x29_2
                · rw [if_pos c12] at H
                  have c12b0 : decide (0 ≤ x29_2) = true := decide_eq_true c12
                  clear c12
                  by_cases c13 : x29_2 < (x4_1.length : Int)
                  · rw [if_pos c13] at H
                    have c13b0 : decide (x29_2 < (x4_1.length : Int)) = true := decide_eq_true c13
                    clear c13
                    by_cases c14 : (Go.bits .xor .u16 x106000_2 ((rd_T175 x4_1 x29_2).f0)) < x106000_2
                    · rw [if_pos c14] at H
                      have c14b0 : decide ((Go.bits .xor .u16 x106000_2 ((rd_T175 x4_1 x29_2).f0)) < x106000_2) = true := decide_eq_true c14
                      clear c14
                      have H' := Aside0.mk H
                      clear H
                      have p106 : 0 ≤ (x29_2 : Int) := of_decide_eq_true (by first | (with_reducible assumption) | assumption)
                      have q106 : x29_2 < (x4_1.length : Int) := of_decide_eq_true (by first | (with_reducible assumption) | assumption)
                      obtain ⟨ad106, e106, hx106_0, hx106_1⟩ := at_T175 (Kd.R_reads' HO_27.out).2.2 x29_2 p106 q106
                      cases e106
                      replace p106 := eq_true p106
                      replace q106 := eq_true q106
                      go_wp2_with (first | ((with_reducible refine gate_dst (N := 9) rfl ?_); refine box_event ?hg (N := 9) ?hd (cs := #[.int .u16 0, .int .u16 0]) (t := 175) ?hr ?_; (case hd => rfl); (case hg => rfl); (case hr => first | (go_simp; done) | (go_simp; rfl)); intro gb107 hg w15 hbox hb; have n0_ := Aside0.mk (Kd.R_below (Kd.R_elderB (by (with_reducible repeat (first | apply Kd.R_alloc | apply Kd.R_drewN | apply Kd.R_drew)); exact HO_4.out) gb107 (Nat.le_of_eq hg.symm)) hb); have n1_ := Aside0.mk (Kd.R_below (Kd.R_elderB (by (with_reducible repeat (first | apply Kd.R_alloc | apply Kd.R_drewN | apply Kd.R_drew)); exact HO_27.out) gb107 (Nat.le_of_eq hg.symm)) hb); have n2_ := Aside0.mk (blk_below (g := gb105) (o := .cells #[.int .u16 x106000_2, .int .u16 x106001_2] 175 (0, 0)) (by (with_reducible repeat (first | refine blk_drewN ?_ _ | refine blk_drew ?_ | refine blk_alloc ?_ _)); exact BK105.out) hb); have n3_ := Aside0.mk (below_step (by repeat (first | (with_reducible first | exact HB.out | apply below_alloc | apply pw_below_drewN | apply below_drew1 | refine below_set ?_ GE105.out) | exact HB.out)) hb); have n4_ := Aside0.mk (hbox); have n5_ := Aside0.mk ((by rw [hg]; exact (below_size (by repeat (first | (with_reducible first | exact HB.out | apply below_alloc | apply pw_below_drewN | apply below_drew1 | refine below_set ?_ GE105.out) | exact HB.out))) : w.heap.size ≤ gb107)); have n6_ := Aside0.mk ((by rw [hg]; exact (below_size (by repeat (first | (with_reducible first | exact HB.out | apply below_alloc | apply pw_below_drewN | apply below_drew1 | refine below_set ?_ GE105.out) | exact HB.out))) : w.heap.size ≤ gb107)); have n7_ := Aside0.mk ((by rw [hg]; exact Nat.ne_of_lt (blk_lt (g := gb105) (o := .cells #[.int .u16 x106000_2, .int .u16 x106001_2] 175 (0, 0)) (by (with_reducible repeat (first | refine blk_drewN ?_ _ | refine blk_drew ?_ | refine blk_alloc ?_ _)); exact BK105.out)) : gb105 ≠ gb107)); have n8_ := Aside0.mk ((by rw [hg]; exact Nat.ne_of_gt (blk_lt (g := gb105) (o := .cells #[.int .u16 x106000_2, .int .u16 x106001_2] 175 (0, 0)) (by (with_reducible repeat (first | refine blk_drewN ?_ _ | refine blk_drew ?_ | refine blk_alloc ?_ _)); exact BK105.out)) : gb107 ≠ gb105)); clear HO_4; clear HO_27; clear BK105; clear HB; have HO_4 := n0_; have HO_27 := n1_; have BK105 := n2_; have HB := n3_; have BK107 := n4_; have GW107 := n5_; have GE107 := n6_; have NB105_107 := n7_; have NB107_105 := n8_; clear n0_ n1_ n2_ n3_ n4_ n5_ n6_ n7_ n8_; clear hb hbox hg; have hnb16 := NB107_105.out; have hnc16 := NB105_107.out; have hcz17_0 : w15.cell? ⟨gb107, 0, none⟩ = some (.int .u16 0) := (blk_cell BK107.out 0).trans rfl; have hcz17_1 : w15.cell? ⟨gb107, 1, none⟩ = some (.int .u16 0) := (blk_cell BK107.out 1).trans rfl; have hfz17_0 := blk_frozen BK107.out 0; have hfz17_1 := blk_frozen BK107.out 1; have hcz18_0 : w15.cell? ⟨gb105, 0, none⟩ = some (.int .u16 x106000_2) := (blk_cell BK105.out 0).trans rfl; have hcz18_1 : w15.cell? ⟨gb105, 1, none⟩ = some (.int .u16 x106001_2) := (blk_cell BK105.out 1).trans rfl; have hfz18_0 := blk_frozen BK105.out 0; have hfz18_1 := blk_frozen BK105.out 1))
                      -- UNDRAWN
                      refine start_ (n := 14) (S := fun w' => w'.cell? ⟨gb105, 1, none⟩ = some (.int .u16 x106001_2) ∧ w'.cell? ⟨gb107, 0, none⟩ = some (.int .u16 ((rd_T175 x4_1 x29_2).f0)) ∧ w'.cell? ⟨gb107, 1, none⟩ = some (.int .u16 ((rd_T175 x4_1 x29_2).f1))) (ds := [13]) #[false, false, false, false, false, false, false, false, false, false, false, false, false, false] (by kernel_rfl) rfl rfl ⟨(blk_cell (blk_drew (blk_far (p := ⟨gb107, 1, none⟩) (blk_far (p := ⟨gb107, 0, none⟩) BK105.out NB105_107.out (.int .u16 ((rd_T175 x4_1 x29_2).f0))) NB105_107.out (.int .u16 ((rd_T175 x4_1 x29_2).f1)))) 1).trans rfl, (blk_cell (blk_drew (blk_put (blk_put BK107.out 0 (.int .u16 ((rd_T175 x4_1 x29_2).f0)) rfl) 1 (.int .u16 ((rd_T175 x4_1 x29_2).f1)) rfl)) 0).trans rfl, (blk_cell (blk_drew (blk_put (blk_put BK107.out 0 (.int .u16 ((rd_T175 x4_1 x29_2).f0)) rfl) 1 (.int .u16 ((rd_T175 x4_1 x29_2).f1)) rfl)) 1).trans rfl⟩ (fun hHeld => ?_)
                      refine pure_ (i := 0) (N := some 41) (v := ?_) (a' := ?_) #[true, false, false, false, false, false, false, false, false, false, false, false, false, false] rfl rfl (by kernel_rfl) (fun _ _ _ h => h) (Or.inl ⟨by rfl, ?_⟩) ?_ ?_
                      rotate_left
                      · intro w'
                        go_simp
                        with_reducible rfl
                      rotate_left
                      · simp only [Act.put, List.setIfInBounds_toArray, List.set_cons_zero, List.set_cons_succ, i64_w, i32_w]
                        rfl
                      refine pure_ (i := 2) (N := some 43) (v := ?_) (a' := ?_) #[true, false, true, false, false, false, false, false, false, false, false, false, false, false] rfl rfl (by kernel_rfl) (fun _ _ _ h => h) (Or.inl ⟨by rfl, ?_⟩) ?_ ?_
                      rotate_left
                      · intro w'
                        go_simp
                        with_reducible rfl
                      rotate_left
                      · simp only [Act.put, List.setIfInBounds_toArray, List.set_cons_zero, List.set_cons_succ, i64_w, i32_w]
                        rfl
                      refine pure_ (i := 5) (N := some 46) (v := ?_) (a' := ?_) #[true, false, true, false, false, true, false, false, false, false, false, false, false, false] rfl rfl (by kernel_rfl) (fun _ _ _ h => h) (Or.inl ⟨by rfl, ?_⟩) ?_ ?_
                      rotate_left
                      · intro w'
                        go_simp
                        with_reducible rfl
                      rotate_left
                      · simp only [Act.put, List.setIfInBounds_toArray, List.set_cons_zero, List.set_cons_succ, i64_w, i32_w]
                        rfl
                      refine pure_ (i := 7) (N := some 48) (v := ?_) (a' := ?_) #[true, false, true, false, false, true, false, true, false, false, false, false, false, false] rfl rfl (by kernel_rfl) (fun _ _ _ h => h) (Or.inl ⟨by rfl, ?_⟩) ?_ ?_
                      rotate_left
                      · intro w'
                        go_simp
                        with_reducible rfl
                      rotate_left
                      · simp only [Act.put, List.setIfInBounds_toArray, List.set_cons_zero, List.set_cons_succ, i64_w, i32_w]
                        rfl
                      refine take_ (i := 3) (N := some 44) (v := ?_) (a' := ?_) #[true, false, true, true, false, true, false, true, false, false, false, false, false, false] rfl rfl (by kernel_rfl) (fun _ _ _ h => h) (Or.inl ⟨by rfl, ?_⟩) hHeld ?_ ?_
                      rotate_left
                      · rintro w' ⟨s0, s1, s2⟩
                        go_simp
                        with_reducible rfl
                      rotate_left
                      · simp only [Act.put, List.setIfInBounds_toArray, List.set_cons_zero, List.set_cons_succ, i64_w, i32_w]
                        rfl
                      refine take_ (i := 6) (N := some 47) (v := ?_) (a' := ?_) #[true, false, true, true, false, true, true, true, false, false, false, false, false, false] rfl rfl (by kernel_rfl) (fun _ _ _ h => h) (Or.inl ⟨by rfl, ?_⟩) hHeld ?_ ?_
                      rotate_left
                      · rintro w' ⟨s0, s1, s2⟩
                        go_simp
                        with_reducible rfl
                      rotate_left
                      · simp only [Act.put, List.setIfInBounds_toArray, List.set_cons_zero, List.set_cons_succ, i64_w, i32_w]
                        rfl
                      refine take_ (i := 8) (N := some 49) (v := ?_) (a' := ?_) #[true, false, true, true, false, true, true, true, true, false, false, false, false, false] rfl rfl (by kernel_rfl) (fun _ _ _ h => h) (Or.inl ⟨by rfl, ?_⟩) hHeld ?_ ?_
                      rotate_left
                      · rintro w' ⟨s0, s1, s2⟩
                        go_simp
                        with_reducible rfl
                      rotate_left
                      · simp only [Act.put, List.setIfInBounds_toArray, List.set_cons_zero, List.set_cons_succ, i64_w, i32_w]
                        rfl
                      refine pure_ (i := 9) (N := some 50) (v := ?_) (a' := ?_) #[true, false, true, true, false, true, true, true, true, true, false, false, false, false] rfl rfl (by kernel_rfl) (fun _ _ _ h => h) (Or.inl ⟨by rfl, ?_⟩) ?_ ?_
                      rotate_left
                      · intro w'
                        go_simp
                        with_reducible rfl
                      rotate_left
                      · simp only [Act.put, List.setIfInBounds_toArray, List.set_cons_zero, List.set_cons_succ, i64_w, i32_w]
                        rfl
                      refine one_ (i := 1) (N := some 42) #[true, true, true, true, false, true, true, true, true, true, false, false, false, false] rfl rfl (by kernel_rfl) (by decide) (fun K hK => ?_)
                      refine value_ (w1 := ?_) (v := ?_) (by rfl) rfl ?_ ?_
                      rotate_left 2
                      · go_simp
                        constructor
                        · rfl
                        · rfl
                      refine hK.out _ _ ⟨hHeld.1, hHeld.2.1, hHeld.2.2⟩ (fun hHeld => ?_)
                      clear hK K
                      refine norm_ (a' := ?_) ?_ ?_
                      rotate_left
                      · show Act.put _ (some 42) _ = _
                        simp only [Act.put, List.setIfInBounds_toArray, List.set_cons_zero, List.set_cons_succ, i64_w, i32_w]
                        rfl
                      refine pure_ (i := 4) (N := some 45) (v := ?_) (a' := ?_) #[true, true, true, true, true, true, true, true, true, true, false, false, false, false] rfl rfl (by kernel_rfl) (fun _ _ _ h => h) (Or.inl ⟨by rfl, ?_⟩) ?_ ?_
                      rotate_left
                      · intro w'
                        go_simp
                        with_reducible rfl
                      rotate_left
                      · simp only [Act.put, List.setIfInBounds_toArray, List.set_cons_zero, List.set_cons_succ, i64_w, i32_w]
                        rfl
                      refine pure_ (i := 10) (N := some 51) (v := ?_) (a' := ?_) #[true, true, true, true, true, true, true, true, true, true, true, false, false, false] rfl rfl (by kernel_rfl) (fun _ _ _ h => h) (Or.inl ⟨by rfl, ?_⟩) ?_ ?_
                      rotate_left
                      · intro w'
                        go_simp
                        with_reducible rfl
                      rotate_left
                      · simp only [Act.put, List.setIfInBounds_toArray, List.set_cons_zero, List.set_cons_succ, i64_w, i32_w]
                        rfl
                      refine one_ (i := 11) (N := none) #[true, true, true, true, true, true, true, true, true, true, true, true, false, false] rfl rfl (by kernel_rfl) (by decide) (fun K hK => ?_)
                      refine skip_ (w1 := ?_) (by rfl) rfl ?_ ?_
                      rotate_left
                      · go_simp
                        rfl
                      refine hK.out _ _ ⟨(by go_simp), (by go_simp), (by go_simp)⟩ (fun hHeld => ?_)
                      clear hK K
                      refine pure_ (i := 12) (N := some 52) (v := ?_) (a' := ?_) #[true, true, true, true, true, true, true, true, true, true, true, true, true, false] rfl rfl (by kernel_rfl) (fun _ _ _ h => h) (Or.inl ⟨by rfl, ?_⟩) ?_ ?_
                      rotate_left
                      · intro w'
                        go_simp
                        with_reducible rfl
                      rotate_left
                      · simp only [Act.put, List.setIfInBounds_toArray, List.set_cons_zero, List.set_cons_succ, i64_w, i32_w]
                        rfl
                      refine last_ (i := 13) (N := none) #[true, true, true, true, true, true, true, true, true, true, true, true, true, true] rfl rfl (by kernel_rfl) (by decide) (fun K hK => ?_)
                      refine skip_ (w1 := ?_) (by rfl) rfl ?_ ?_
                      rotate_left
                      · go_simp
                        rfl
                      refine hK.out _ _ ?_
                      clear hK K
                      refine done_ (by kernel_rfl) ?_

                      try go_wp2
                      go_roundg k2
                      case measure => have := HK1.out; have := HK2.out; omega
                      case rel => exact ⟨(wrap64 (x29_2 + 1)), (Go.bits .xor .u16 x106000_2 ((rd_T175 x4_1 x29_2).f0)), (Go.bits .xor .u16 x106001_2 ((rd_T175 x4_1 x29_2).f1)), (by first | rfl | (simp; done) | (simp [*]; done)), H', ⟨by have := HK1.out; have := HK2.out; omega⟩, ⟨by (with_reducible repeat (first | apply Kd.R_alloc | apply Kd.R_drewN | apply Kd.R_drew)); exact Kd.R_mono (Kd.R_far (p := ⟨gb105, 1, none⟩) (Kd.R_far (p := ⟨gb105, 0, none⟩) (Kd.R_far (p := ⟨gb107, 1, none⟩) (Kd.R_far (p := ⟨gb107, 0, none⟩) (Kd.R_mono (Kd.R_mono HO_4.out (fun k_ hk => (⟨hk, hk.2⟩ : _ ∧ k_ ≠ gb107))) (fun k_ hk => (⟨hk, hk.1.1⟩ : _ ∧ k_ ≠ gb105))) (fun _ hk => hk.1.2) (.int .u16 ((rd_T175 x4_1 x29_2).f0))) (fun _ hk => hk.1.2) (.int .u16 ((rd_T175 x4_1 x29_2).f1))) (fun _ hk => hk.2) (.int .u16 (Go.bits .xor .u16 x106000_2 ((rd_T175 x4_1 x29_2).f0)))) (fun _ hk => hk.2) (.int .u16 (Go.bits .xor .u16 x106001_2 ((rd_T175 x4_1 x29_2).f1)))) (fun _ hk => hk.1.1.1)⟩, ⟨by (with_reducible repeat (first | apply Kd.R_alloc | apply Kd.R_drewN | apply Kd.R_drew)); exact Kd.R_mono (Kd.R_far (p := ⟨gb105, 1, none⟩) (Kd.R_far (p := ⟨gb105, 0, none⟩) (Kd.R_far (p := ⟨gb107, 1, none⟩) (Kd.R_far (p := ⟨gb107, 0, none⟩) (Kd.R_mono (Kd.R_mono HO_27.out (fun k_ hk => (⟨hk, hk.2⟩ : _ ∧ k_ ≠ gb107))) (fun k_ hk => (⟨hk, hk.1.1⟩ : _ ∧ k_ ≠ gb105))) (fun _ hk => hk.1.2) (.int .u16 ((rd_T175 x4_1 x29_2).f0))) (fun _ hk => hk.1.2) (.int .u16 ((rd_T175 x4_1 x29_2).f1))) (fun _ hk => hk.2) (.int .u16 (Go.bits .xor .u16 x106000_2 ((rd_T175 x4_1 x29_2).f0)))) (fun _ hk => hk.2) (.int .u16 (Go.bits .xor .u16 x106001_2 ((rd_T175 x4_1 x29_2).f1)))) (fun _ hk => hk.1.1.1)⟩, ⟨by (with_reducible repeat (first | refine blk_drewN ?_ _ | refine blk_drew ?_ | refine blk_alloc ?_ _)); refine blk_put (cs := #[.int .u16 (Go.bits .xor .u16 x106000_2 ((rd_T175 x4_1 x29_2).f0)), .int .u16 x106001_2]) ?_ 1 _ rfl; (with_reducible repeat (first | refine blk_drewN ?_ _ | refine blk_drew ?_ | refine blk_alloc ?_ _)); refine blk_put (cs := #[.int .u16 x106000_2, .int .u16 x106001_2]) ?_ 0 _ rfl; (with_reducible repeat (first | refine blk_drewN ?_ _ | refine blk_drew ?_ | refine blk_alloc ?_ _)); refine blk_far ?_ NB105_107.out _; (with_reducible repeat (first | refine blk_drewN ?_ _ | refine blk_drew ?_ | refine blk_alloc ?_ _)); refine blk_far ?_ NB105_107.out _; (with_reducible repeat (first | refine blk_drewN ?_ _ | refine blk_drew ?_ | refine blk_alloc ?_ _)); exact BK105.out⟩, ⟨by repeat (first | (with_reducible first | exact HB.out | apply below_alloc | apply pw_below_drewN | apply below_drew1 | refine below_set ?_ GE105.out | refine below_set ?_ GE107.out) | exact HB.out)⟩⟩
                    · rw [if_neg c14] at H
                      have c14b0 : decide ((Go.bits .xor .u16 x106000_2 ((rd_T175 x4_1 x29_2).f0)) < x106000_2) = false := decide_eq_false c14
                      clear c14
                      have H' := Aside0.mk H
                      clear H
                      have p106 : 0 ≤ (x29_2 : Int) := of_decide_eq_true (by first | (with_reducible assumption) | assumption)
                      have q106 : x29_2 < (x4_1.length : Int) := of_decide_eq_true (by first | (with_reducible assumption) | assumption)
                      obtain ⟨ad106, e106, hx106_0, hx106_1⟩ := at_T175 (Kd.R_reads' HO_27.out).2.2 x29_2 p106 q106
                      cases e106
                      replace p106 := eq_true p106
                      replace q106 := eq_true q106
                      go_wp2_with (first | ((with_reducible refine gate_dst (N := 9) rfl ?_); refine box_event ?hg (N := 9) ?hd (cs := #[.int .u16 0, .int .u16 0]) (t := 175) ?hr ?_; (case hd => rfl); (case hg => rfl); (case hr => first | (go_simp; done) | (go_simp; rfl)); intro gb107 hg w19 hbox hb; have n0_ := Aside0.mk (Kd.R_below (Kd.R_elderB (by (with_reducible repeat (first | apply Kd.R_alloc | apply Kd.R_drewN | apply Kd.R_drew)); exact HO_4.out) gb107 (Nat.le_of_eq hg.symm)) hb); have n1_ := Aside0.mk (Kd.R_below (Kd.R_elderB (by (with_reducible repeat (first | apply Kd.R_alloc | apply Kd.R_drewN | apply Kd.R_drew)); exact HO_27.out) gb107 (Nat.le_of_eq hg.symm)) hb); have n2_ := Aside0.mk (blk_below (g := gb105) (o := .cells #[.int .u16 x106000_2, .int .u16 x106001_2] 175 (0, 0)) (by (with_reducible repeat (first | refine blk_drewN ?_ _ | refine blk_drew ?_ | refine blk_alloc ?_ _)); exact BK105.out) hb); have n3_ := Aside0.mk (below_step (by repeat (first | (with_reducible first | exact HB.out | apply below_alloc | apply pw_below_drewN | apply below_drew1 | refine below_set ?_ GE105.out) | exact HB.out)) hb); have n4_ := Aside0.mk (hbox); have n5_ := Aside0.mk ((by rw [hg]; exact (below_size (by repeat (first | (with_reducible first | exact HB.out | apply below_alloc | apply pw_below_drewN | apply below_drew1 | refine below_set ?_ GE105.out) | exact HB.out))) : w.heap.size ≤ gb107)); have n6_ := Aside0.mk ((by rw [hg]; exact (below_size (by repeat (first | (with_reducible first | exact HB.out | apply below_alloc | apply pw_below_drewN | apply below_drew1 | refine below_set ?_ GE105.out) | exact HB.out))) : w.heap.size ≤ gb107)); have n7_ := Aside0.mk ((by rw [hg]; exact Nat.ne_of_lt (blk_lt (g := gb105) (o := .cells #[.int .u16 x106000_2, .int .u16 x106001_2] 175 (0, 0)) (by (with_reducible repeat (first | refine blk_drewN ?_ _ | refine blk_drew ?_ | refine blk_alloc ?_ _)); exact BK105.out)) : gb105 ≠ gb107)); have n8_ := Aside0.mk ((by rw [hg]; exact Nat.ne_of_gt (blk_lt (g := gb105) (o := .cells #[.int .u16 x106000_2, .int .u16 x106001_2] 175 (0, 0)) (by (with_reducible repeat (first | refine blk_drewN ?_ _ | refine blk_drew ?_ | refine blk_alloc ?_ _)); exact BK105.out)) : gb107 ≠ gb105)); clear HO_4; clear HO_27; clear BK105; clear HB; have HO_4 := n0_; have HO_27 := n1_; have BK105 := n2_; have HB := n3_; have BK107 := n4_; have GW107 := n5_; have GE107 := n6_; have NB105_107 := n7_; have NB107_105 := n8_; clear n0_ n1_ n2_ n3_ n4_ n5_ n6_ n7_ n8_; clear hb hbox hg; have hnb20 := NB107_105.out; have hnc20 := NB105_107.out; have hcz21_0 : w19.cell? ⟨gb107, 0, none⟩ = some (.int .u16 0) := (blk_cell BK107.out 0).trans rfl; have hcz21_1 : w19.cell? ⟨gb107, 1, none⟩ = some (.int .u16 0) := (blk_cell BK107.out 1).trans rfl; have hfz21_0 := blk_frozen BK107.out 0; have hfz21_1 := blk_frozen BK107.out 1; have hcz22_0 : w19.cell? ⟨gb105, 0, none⟩ = some (.int .u16 x106000_2) := (blk_cell BK105.out 0).trans rfl; have hcz22_1 : w19.cell? ⟨gb105, 1, none⟩ = some (.int .u16 x106001_2) := (blk_cell BK105.out 1).trans rfl; have hfz22_0 := blk_frozen BK105.out 0; have hfz22_1 := blk_frozen BK105.out 1))
                      repeat (go_quiet (first | ((with_reducible refine gate_dst (N := 9) rfl ?_); refine box_event ?hg (N := 9) ?hd (cs := #[.int .u16 0, .int .u16 0]) (t := 175) ?hr ?_; (case hd => rfl); (case hg => rfl); (case hr => first | (go_simp; done) | (go_simp; rfl)); intro gb107 hg w19 hbox hb; have n0_ := Aside0.mk (Kd.R_below (Kd.R_elderB (by (with_reducible repeat (first | apply Kd.R_alloc | apply Kd.R_drewN | apply Kd.R_drew)); exact HO_4.out) gb107 (Nat.le_of_eq hg.symm)) hb); have n1_ := Aside0.mk (Kd.R_below (Kd.R_elderB (by (with_reducible repeat (first | apply Kd.R_alloc | apply Kd.R_drewN | apply Kd.R_drew)); exact HO_27.out) gb107 (Nat.le_of_eq hg.symm)) hb); have n2_ := Aside0.mk (blk_below (g := gb105) (o := .cells #[.int .u16 x106000_2, .int .u16 x106001_2] 175 (0, 0)) (by (with_reducible repeat (first | refine blk_drewN ?_ _ | refine blk_drew ?_ | refine blk_alloc ?_ _)); exact BK105.out) hb); have n3_ := Aside0.mk (below_step (by repeat (first | (with_reducible first | exact HB.out | apply below_alloc | apply pw_below_drewN | apply below_drew1 | refine below_set ?_ GE105.out) | exact HB.out)) hb); have n4_ := Aside0.mk (hbox); have n5_ := Aside0.mk ((by rw [hg]; exact (below_size (by repeat (first | (with_reducible first | exact HB.out | apply below_alloc | apply pw_below_drewN | apply below_drew1 | refine below_set ?_ GE105.out) | exact HB.out))) : w.heap.size ≤ gb107)); have n6_ := Aside0.mk ((by rw [hg]; exact (below_size (by repeat (first | (with_reducible first | exact HB.out | apply below_alloc | apply pw_below_drewN | apply below_drew1 | refine below_set ?_ GE105.out) | exact HB.out))) : w.heap.size ≤ gb107)); have n7_ := Aside0.mk ((by rw [hg]; exact Nat.ne_of_lt (blk_lt (g := gb105) (o := .cells #[.int .u16 x106000_2, .int .u16 x106001_2] 175 (0, 0)) (by (with_reducible repeat (first | refine blk_drewN ?_ _ | refine blk_drew ?_ | refine blk_alloc ?_ _)); exact BK105.out)) : gb105 ≠ gb107)); have n8_ := Aside0.mk ((by rw [hg]; exact Nat.ne_of_gt (blk_lt (g := gb105) (o := .cells #[.int .u16 x106000_2, .int .u16 x106001_2] 175 (0, 0)) (by (with_reducible repeat (first | refine blk_drewN ?_ _ | refine blk_drew ?_ | refine blk_alloc ?_ _)); exact BK105.out)) : gb107 ≠ gb105)); clear HO_4; clear HO_27; clear BK105; clear HB; have HO_4 := n0_; have HO_27 := n1_; have BK105 := n2_; have HB := n3_; have BK107 := n4_; have GW107 := n5_; have GE107 := n6_; have NB105_107 := n7_; have NB107_105 := n8_; clear n0_ n1_ n2_ n3_ n4_ n5_ n6_ n7_ n8_; clear hb hbox hg; have hnb20 := NB107_105.out; have hnc20 := NB105_107.out; have hcz21_0 : w19.cell? ⟨gb107, 0, none⟩ = some (.int .u16 0) := (blk_cell BK107.out 0).trans rfl; have hcz21_1 : w19.cell? ⟨gb107, 1, none⟩ = some (.int .u16 0) := (blk_cell BK107.out 1).trans rfl; have hfz21_0 := blk_frozen BK107.out 0; have hfz21_1 := blk_frozen BK107.out 1; have hcz22_0 : w19.cell? ⟨gb105, 0, none⟩ = some (.int .u16 x106000_2) := (blk_cell BK105.out 0).trans rfl; have hcz22_1 : w19.cell? ⟨gb105, 1, none⟩ = some (.int .u16 x106001_2) := (blk_cell BK105.out 1).trans rfl; have hfz22_0 := blk_frozen BK105.out 0; have hfz22_1 := blk_frozen BK105.out 1)); try go_wp2_with (first | ((with_reducible refine gate_dst (N := 9) rfl ?_); refine box_event ?hg (N := 9) ?hd (cs := #[.int .u16 0, .int .u16 0]) (t := 175) ?hr ?_; (case hd => rfl); (case hg => rfl); (case hr => first | (go_simp; done) | (go_simp; rfl)); intro gb107 hg w19 hbox hb; have n0_ := Aside0.mk (Kd.R_below (Kd.R_elderB (by (with_reducible repeat (first | apply Kd.R_alloc | apply Kd.R_drewN | apply Kd.R_drew)); exact HO_4.out) gb107 (Nat.le_of_eq hg.symm)) hb); have n1_ := Aside0.mk (Kd.R_below (Kd.R_elderB (by (with_reducible repeat (first | apply Kd.R_alloc | apply Kd.R_drewN | apply Kd.R_drew)); exact HO_27.out) gb107 (Nat.le_of_eq hg.symm)) hb); have n2_ := Aside0.mk (blk_below (g := gb105) (o := .cells #[.int .u16 x106000_2, .int .u16 x106001_2] 175 (0, 0)) (by (with_reducible repeat (first | refine blk_drewN ?_ _ | refine blk_drew ?_ | refine blk_alloc ?_ _)); exact BK105.out) hb); have n3_ := Aside0.mk (below_step (by repeat (first | (with_reducible first | exact HB.out | apply below_alloc | apply pw_below_drewN | apply below_drew1 | refine below_set ?_ GE105.out) | exact HB.out)) hb); have n4_ := Aside0.mk (hbox); have n5_ := Aside0.mk ((by rw [hg]; exact (below_size (by repeat (first | (with_reducible first | exact HB.out | apply below_alloc | apply pw_below_drewN | apply below_drew1 | refine below_set ?_ GE105.out) | exact HB.out))) : w.heap.size ≤ gb107)); have n6_ := Aside0.mk ((by rw [hg]; exact (below_size (by repeat (first | (with_reducible first | exact HB.out | apply below_alloc | apply pw_below_drewN | apply below_drew1 | refine below_set ?_ GE105.out) | exact HB.out))) : w.heap.size ≤ gb107)); have n7_ := Aside0.mk ((by rw [hg]; exact Nat.ne_of_lt (blk_lt (g := gb105) (o := .cells #[.int .u16 x106000_2, .int .u16 x106001_2] 175 (0, 0)) (by (with_reducible repeat (first | refine blk_drewN ?_ _ | refine blk_drew ?_ | refine blk_alloc ?_ _)); exact BK105.out)) : gb105 ≠ gb107)); have n8_ := Aside0.mk ((by rw [hg]; exact Nat.ne_of_gt (blk_lt (g := gb105) (o := .cells #[.int .u16 x106000_2, .int .u16 x106001_2] 175 (0, 0)) (by (with_reducible repeat (first | refine blk_drewN ?_ _ | refine blk_drew ?_ | refine blk_alloc ?_ _)); exact BK105.out)) : gb107 ≠ gb105)); clear HO_4; clear HO_27; clear BK105; clear HB; have HO_4 := n0_; have HO_27 := n1_; have BK105 := n2_; have HB := n3_; have BK107 := n4_; have GW107 := n5_; have GE107 := n6_; have NB105_107 := n7_; have NB107_105 := n8_; clear n0_ n1_ n2_ n3_ n4_ n5_ n6_ n7_ n8_; clear hb hbox hg; have hnb20 := NB107_105.out; have hnc20 := NB105_107.out; have hcz21_0 : w19.cell? ⟨gb107, 0, none⟩ = some (.int .u16 0) := (blk_cell BK107.out 0).trans rfl; have hcz21_1 : w19.cell? ⟨gb107, 1, none⟩ = some (.int .u16 0) := (blk_cell BK107.out 1).trans rfl; have hfz21_0 := blk_frozen BK107.out 0; have hfz21_1 := blk_frozen BK107.out 1; have hcz22_0 : w19.cell? ⟨gb105, 0, none⟩ = some (.int .u16 x106000_2) := (blk_cell BK105.out 0).trans rfl; have hcz22_1 : w19.cell? ⟨gb105, 1, none⟩ = some (.int .u16 x106001_2) := (blk_cell BK105.out 1).trans rfl; have hfz22_0 := blk_frozen BK105.out 0; have hfz22_1 := blk_frozen BK105.out 1)))
                      go_roundg k2
                      case measure => have := HK1.out; have := HK2.out; omega
                      case rel => exact ⟨(wrap64 (x29_2 + 1)), (x106000_2), (x106001_2), (by first | rfl | (simp; done) | (simp [*]; done)), H', ⟨by have := HK1.out; have := HK2.out; omega⟩, ⟨by (with_reducible repeat (first | apply Kd.R_alloc | apply Kd.R_drewN | apply Kd.R_drew)); exact Kd.R_mono (Kd.R_far (p := ⟨gb107, 1, none⟩) (Kd.R_far (p := ⟨gb107, 0, none⟩) (Kd.R_mono HO_4.out (fun k_ hk => (⟨hk, hk.2⟩ : _ ∧ k_ ≠ gb107))) (fun _ hk => hk.2) (.int .u16 ((rd_T175 x4_1 x29_2).f0))) (fun _ hk => hk.2) (.int .u16 ((rd_T175 x4_1 x29_2).f1))) (fun _ hk => hk.1.1)⟩, ⟨by (with_reducible repeat (first | apply Kd.R_alloc | apply Kd.R_drewN | apply Kd.R_drew)); exact Kd.R_mono (Kd.R_far (p := ⟨gb107, 1, none⟩) (Kd.R_far (p := ⟨gb107, 0, none⟩) (Kd.R_mono HO_27.out (fun k_ hk => (⟨hk, hk.2⟩ : _ ∧ k_ ≠ gb107))) (fun _ hk => hk.2) (.int .u16 ((rd_T175 x4_1 x29_2).f0))) (fun _ hk => hk.2) (.int .u16 ((rd_T175 x4_1 x29_2).f1))) (fun _ hk => hk.1.1)⟩, ⟨by (with_reducible repeat (first | refine blk_drewN ?_ _ | refine blk_drew ?_ | refine blk_alloc ?_ _)); refine blk_far ?_ NB105_107.out _; (with_reducible repeat (first | refine blk_drewN ?_ _ | refine blk_drew ?_ | refine blk_alloc ?_ _)); refine blk_far ?_ NB105_107.out _; (with_reducible repeat (first | refine blk_drewN ?_ _ | refine blk_drew ?_ | refine blk_alloc ?_ _)); exact BK105.out⟩, ⟨by repeat (first | (with_reducible first | exact HB.out | apply below_alloc | apply pw_below_drewN | apply below_drew1 | refine below_set ?_ GE105.out | refine below_set ?_ GE107.out) | exact HB.out)⟩⟩
                  · rw [if_neg c13] at H
                    exact absurd H (by simp)
                · rw [if_neg c12] at H
                  exact absurd H (by simp)
              · rw [if_neg c11] at H
                have c11b0 : decide (x29_2 < (x4_1.length : Int)) = false := decide_eq_false c11
                clear c11
                by_cases c23 : x106000_2 = 0
                · rw [if_pos c23] at H
                  have c23b0 : (x106000_2 == 0) = true := beq_iff_eq.mpr c23
                  have c23b1 : (x106000_2 != 0) = false := bne_eq_false_iff_eq.mpr c23
                  clear c23
                  have H' := Aside0.mk H
                  clear H
                  have hcz24_0 : wr.cell? ⟨gb105, 0, none⟩ = some (.int .u16 x106000_2) := (blk_cell BK105.out 0).trans rfl
                  have hcz24_1 : wr.cell? ⟨gb105, 1, none⟩ = some (.int .u16 x106001_2) := (blk_cell BK105.out 1).trans rfl
                  have hfz24_0 := blk_frozen BK105.out 0
                  have hfz24_1 := blk_frozen BK105.out 1
                  go_wp2
                  repeat (go_quiet (fail); try go_wp2)
                  go_roundg k2
                  case measure => have := HK1.out; have := HK2.out; omega
                  case rel => exact ⟨(x4_1), (wrap64 (x5_1 + 1)), (by first | rfl | (simp; done) | (simp [*]; done)), H', ⟨by have := HK1.out; have := HK2.out; omega⟩, ⟨by (with_reducible repeat (first | apply Kd.R_alloc | apply Kd.R_drewN | apply Kd.R_drew)); exact Kd.R_mono HO_4.out (fun _ hk => trivial)⟩, ⟨by repeat (first | (with_reducible first | exact HB.out | apply below_alloc | apply pw_below_drewN | apply below_drew1 | refine below_set ?_ GE105.out) | exact HB.out)⟩⟩
                · rw [if_neg c23] at H
                  have c23b0 : (x106000_2 == 0) = false := beq_eq_false_iff_ne.mpr c23
                  have c23b1 : (x106000_2 != 0) = true := bne_iff_ne.mpr c23
                  by_cases c25 : x4_1.length < 35184372088832
                  · rw [if_pos c25] at H
                    have LMc25 := Aside0.mk c25
                    clear c25
                    obtain ⟨y108, hy108⟩ : ∃ y_ : List (S175), y_ = (x4_1 ++ [(⟨x106000_2, x106001_2⟩ : S175)]) := ⟨_, rfl⟩
                    replace H : ((impl_image.f y108).bind fun t111 => (impl_halfRoot.l0 k2 a0 t111 (wrap64 (x5_1 + 1)))) = some (r1, r2) := by first | (rw [hy108]; with_reducible exact H) | (have H2_ := (Option.bind_some _ _).symm.trans H; rw [hy108]; with_reducible exact H2_) | (have H2_ := (Option.bind_some _ _).symm.trans H; with_reducible exact H2_) | with_reducible exact H | (rw [hy108]; exact H) | exact H
                    have Ny108 := Aside0.mk hy108
                    clear hy108
                    replace H := Option.bind_eq_some_iff.mp H
                    obtain ⟨t111, A260, H⟩ := H
                    replace H : (impl_halfRoot.l0 k2 a0 t111 (wrap64 (x5_1 + 1))) = some (r1, r2) := H
                    have A26 := Aside0.mk A260
                    clear A260
                    have H' := Aside0.mk H
                    clear H
                    have hcz27_0 : wr.cell? ⟨gb105, 0, none⟩ = some (.int .u16 x106000_2) := (blk_cell BK105.out 0).trans rfl
                    have hcz27_1 : wr.cell? ⟨gb105, 1, none⟩ = some (.int .u16 x106001_2) := (blk_cell BK105.out 1).trans rfl
                    have hfz27_0 := blk_frozen BK105.out 0
                    have hfz27_1 := blk_frozen BK105.out 1
                    go_wp2_with (first | ((with_reducible refine gate_builtin (b := .append) (xs := #[.tmp 57, .tmp 59]) rfl ?_); at_builtin; refine Kd.R_append k175 (w0 := w) w.heap.size rfl (.tmp 57) (.tmp 59) 173 175 (.agg #[(.int .u16 0), (.int .u16 0)]) 4 rfl Try.underlying173 info175 rfl (by decide) (by omega) (.slice Ao10 x4_1.length co10) x4_1 (⟨x106000_2, x106001_2⟩ : S175) [.int .u16 x106000_2, .int .u16 x106001_2] (fun k_ => k_ ≠ gb105) (fun _ => False) rfl rfl ?aP (fun _ hk => hk.elim) ?aF ?aO ?aB ?aS ?aL ?_; (case aP => exact k175_mkM _ _ _ (⟨x106000_2, x106001_2⟩ : S175)); (case aB => exact (by repeat (first | (with_reducible first | exact HB.out | apply below_alloc | apply pw_below_drewN | apply below_drew1 | refine below_set ?_ GE105.out) | exact HB.out))); (case aF => exact (fun k_ hk => Kd.freshB (g := gb105) (o := .cells #[.int .u16 x106000_2, .int .u16 x106001_2] 175 (0, 0)) (by (with_reducible repeat (first | refine blk_drewN ?_ _ | refine blk_drew ?_ | refine blk_alloc ?_ _)); exact BK105.out) k_ hk)); (case aO => exact (by (with_reducible repeat (first | apply Kd.R_alloc | apply Kd.R_drewN | apply Kd.R_drew)); exact HO_4.out)); (case aS => exact (below_size (by repeat (first | (with_reducible first | exact HB.out | apply below_alloc | apply pw_below_drewN | apply below_drew1 | refine below_set ?_ GE105.out) | exact HB.out)))); (case aL => have := LMc25.out; omega); intro v109 w28 ho hb hg hat; rw [← Ny108.out] at ho; have n0_ := Aside0.mk (blk_grown (g := gb105) (o := .cells #[.int .u16 x106000_2, .int .u16 x106001_2] 175 (0, 0)) (by (with_reducible repeat (first | refine blk_drewN ?_ _ | refine blk_drew ?_ | refine blk_alloc ?_ _)); exact BK105.out) hg (Kd.R_away HO_4.out (fun _ hk => hk))); have n1_ := Aside0.mk (hb); have n2_ := Aside0.mk (ho); clear BK105; clear HB; clear HO_4; have BK105 := n0_; have HB := n1_; have HO110 := n2_; clear n0_ n1_ n2_; clear ho hb hg hat; obtain ⟨Ao29, co29, eo29⟩ := Kd.R_slice HO110.out; subst eo29) | (go_at_call 154; (with_reducible refine (impl_image.calls (fun k_ => some k_ = (.slice Ao29 y108.length co29 : Value).ownBlock) (.slice Ao29 y108.length co29) y108 t111 w _ ?side1 ?side2 A26.out).mono ?_); (case side1 => repeat (first | (with_reducible first | exact HB.out | apply below_alloc | apply pw_below_drewN | apply below_drew1 | refine below_set ?_ GE105.out) | exact HB.out)); (case side2 => exact Kd.R_tight rfl HO110.out); rintro e w30 ⟨rfl, hy0, hb, hkp⟩; have n0_ := Aside0.mk (blk_kept (by (with_reducible repeat (first | refine blk_drewN ?_ _ | refine blk_drew ?_ | refine blk_alloc ?_ _)); exact BK105.out) hkp (fun hs_ => (fun e_ => (Kd.R_away HO110.out (fun _ hk => hk)) e_) hs_)); have n1_ := Aside0.mk (Kd.R_reok rfl hy0 (fun k_ e_ => HO110.out.1 k_ e_)); have n2_ := Aside0.mk (hb); clear BK105; clear HO110; clear HB; have BK105 := n0_; have HO110 := n1_; have HB := n2_; clear n0_ n1_ n2_; (try clear hb); (try clear hkp); (try clear hy0)))
                    repeat (go_quiet (first | ((with_reducible refine gate_builtin (b := .append) (xs := #[.tmp 57, .tmp 59]) rfl ?_); at_builtin; refine Kd.R_append k175 (w0 := w) w.heap.size rfl (.tmp 57) (.tmp 59) 173 175 (.agg #[(.int .u16 0), (.int .u16 0)]) 4 rfl Try.underlying173 info175 rfl (by decide) (by omega) (.slice Ao10 x4_1.length co10) x4_1 (⟨x106000_2, x106001_2⟩ : S175) [.int .u16 x106000_2, .int .u16 x106001_2] (fun k_ => k_ ≠ gb105) (fun _ => False) rfl rfl ?aP (fun _ hk => hk.elim) ?aF ?aO ?aB ?aS ?aL ?_; (case aP => exact k175_mkM _ _ _ (⟨x106000_2, x106001_2⟩ : S175)); (case aB => exact (by repeat (first | (with_reducible first | exact HB.out | apply below_alloc | apply pw_below_drewN | apply below_drew1 | refine below_set ?_ GE105.out) | exact HB.out))); (case aF => exact (fun k_ hk => Kd.freshB (g := gb105) (o := .cells #[.int .u16 x106000_2, .int .u16 x106001_2] 175 (0, 0)) (by (with_reducible repeat (first | refine blk_drewN ?_ _ | refine blk_drew ?_ | refine blk_alloc ?_ _)); exact BK105.out) k_ hk)); (case aO => exact (by (with_reducible repeat (first | apply Kd.R_alloc | apply Kd.R_drewN | apply Kd.R_drew)); exact HO_4.out)); (case aS => exact (below_size (by repeat (first | (with_reducible first | exact HB.out | apply below_alloc | apply pw_below_drewN | apply below_drew1 | refine below_set ?_ GE105.out) | exact HB.out)))); (case aL => have := LMc25.out; omega); intro v109 w28 ho hb hg hat; rw [← Ny108.out] at ho; have n0_ := Aside0.mk (blk_grown (g := gb105) (o := .cells #[.int .u16 x106000_2, .int .u16 x106001_2] 175 (0, 0)) (by (with_reducible repeat (first | refine blk_drewN ?_ _ | refine blk_drew ?_ | refine blk_alloc ?_ _)); exact BK105.out) hg (Kd.R_away HO_4.out (fun _ hk => hk))); have n1_ := Aside0.mk (hb); have n2_ := Aside0.mk (ho); clear BK105; clear HB; clear HO_4; have BK105 := n0_; have HB := n1_; have HO110 := n2_; clear n0_ n1_ n2_; clear ho hb hg hat; obtain ⟨Ao29, co29, eo29⟩ := Kd.R_slice HO110.out; subst eo29) | (go_at_call 154; (with_reducible refine (impl_image.calls (fun k_ => some k_ = (.slice Ao29 y108.length co29 : Value).ownBlock) (.slice Ao29 y108.length co29) y108 t111 w _ ?side1 ?side2 A26.out).mono ?_); (case side1 => repeat (first | (with_reducible first | exact HB.out | apply below_alloc | apply pw_below_drewN | apply below_drew1 | refine below_set ?_ GE105.out) | exact HB.out)); (case side2 => exact Kd.R_tight rfl HO110.out); rintro e w30 ⟨rfl, hy0, hb, hkp⟩; have n0_ := Aside0.mk (blk_kept (by (with_reducible repeat (first | refine blk_drewN ?_ _ | refine blk_drew ?_ | refine blk_alloc ?_ _)); exact BK105.out) hkp (fun hs_ => (fun e_ => (Kd.R_away HO110.out (fun _ hk => hk)) e_) hs_)); have n1_ := Aside0.mk (Kd.R_reok rfl hy0 (fun k_ e_ => HO110.out.1 k_ e_)); have n2_ := Aside0.mk (hb); clear BK105; clear HO110; clear HB; have BK105 := n0_; have HO110 := n1_; have HB := n2_; clear n0_ n1_ n2_; (try clear hb); (try clear hkp); (try clear hy0))); try go_wp2_with (first | ((with_reducible refine gate_builtin (b := .append) (xs := #[.tmp 57, .tmp 59]) rfl ?_); at_builtin; refine Kd.R_append k175 (w0 := w) w.heap.size rfl (.tmp 57) (.tmp 59) 173 175 (.agg #[(.int .u16 0), (.int .u16 0)]) 4 rfl Try.underlying173 info175 rfl (by decide) (by omega) (.slice Ao10 x4_1.length co10) x4_1 (⟨x106000_2, x106001_2⟩ : S175) [.int .u16 x106000_2, .int .u16 x106001_2] (fun k_ => k_ ≠ gb105) (fun _ => False) rfl rfl ?aP (fun _ hk => hk.elim) ?aF ?aO ?aB ?aS ?aL ?_; (case aP => exact k175_mkM _ _ _ (⟨x106000_2, x106001_2⟩ : S175)); (case aB => exact (by repeat (first | (with_reducible first | exact HB.out | apply below_alloc | apply pw_below_drewN | apply below_drew1 | refine below_set ?_ GE105.out) | exact HB.out))); (case aF => exact (fun k_ hk => Kd.freshB (g := gb105) (o := .cells #[.int .u16 x106000_2, .int .u16 x106001_2] 175 (0, 0)) (by (with_reducible repeat (first | refine blk_drewN ?_ _ | refine blk_drew ?_ | refine blk_alloc ?_ _)); exact BK105.out) k_ hk)); (case aO => exact (by (with_reducible repeat (first | apply Kd.R_alloc | apply Kd.R_drewN | apply Kd.R_drew)); exact HO_4.out)); (case aS => exact (below_size (by repeat (first | (with_reducible first | exact HB.out | apply below_alloc | apply pw_below_drewN | apply below_drew1 | refine below_set ?_ GE105.out) | exact HB.out)))); (case aL => have := LMc25.out; omega); intro v109 w28 ho hb hg hat; rw [← Ny108.out] at ho; have n0_ := Aside0.mk (blk_grown (g := gb105) (o := .cells #[.int .u16 x106000_2, .int .u16 x106001_2] 175 (0, 0)) (by (with_reducible repeat (first | refine blk_drewN ?_ _ | refine blk_drew ?_ | refine blk_alloc ?_ _)); exact BK105.out) hg (Kd.R_away HO_4.out (fun _ hk => hk))); have n1_ := Aside0.mk (hb); have n2_ := Aside0.mk (ho); clear BK105; clear HB; clear HO_4; have BK105 := n0_; have HB := n1_; have HO110 := n2_; clear n0_ n1_ n2_; clear ho hb hg hat; obtain ⟨Ao29, co29, eo29⟩ := Kd.R_slice HO110.out; subst eo29) | (go_at_call 154; (with_reducible refine (impl_image.calls (fun k_ => some k_ = (.slice Ao29 y108.length co29 : Value).ownBlock) (.slice Ao29 y108.length co29) y108 t111 w _ ?side1 ?side2 A26.out).mono ?_); (case side1 => repeat (first | (with_reducible first | exact HB.out | apply below_alloc | apply pw_below_drewN | apply below_drew1 | refine below_set ?_ GE105.out) | exact HB.out)); (case side2 => exact Kd.R_tight rfl HO110.out); rintro e w30 ⟨rfl, hy0, hb, hkp⟩; have n0_ := Aside0.mk (blk_kept (by (with_reducible repeat (first | refine blk_drewN ?_ _ | refine blk_drew ?_ | refine blk_alloc ?_ _)); exact BK105.out) hkp (fun hs_ => (fun e_ => (Kd.R_away HO110.out (fun _ hk => hk)) e_) hs_)); have n1_ := Aside0.mk (Kd.R_reok rfl hy0 (fun k_ e_ => HO110.out.1 k_ e_)); have n2_ := Aside0.mk (hb); clear BK105; clear HO110; clear HB; have BK105 := n0_; have HO110 := n1_; have HB := n2_; clear n0_ n1_ n2_; (try clear hb); (try clear hkp); (try clear hy0))))
                    go_roundg k2
                    case measure => have := HK1.out; have := HK2.out; omega
                    case rel => exact ⟨(t111), (wrap64 (x5_1 + 1)), (by first | rfl | (simp; done) | (simp [*]; done)), H', ⟨by have := HK1.out; have := HK2.out; omega⟩, ⟨by (with_reducible repeat (first | apply Kd.R_alloc | apply Kd.R_drewN | apply Kd.R_drew)); exact Kd.R_mono HO110.out (fun _ hk => trivial)⟩, ⟨by repeat (first | (with_reducible first | exact HB.out | apply below_alloc | apply pw_below_drewN | apply below_drew1 | refine below_set ?_ GE105.out) | exact HB.out)⟩⟩
                  · rw [if_neg c25] at H
                    exact absurd H (by simp)
        · rw [if_neg c5] at H
          exact absurd H (by simp)
      · rw [if_neg c4] at H
        have c4b0 : decide (x5_1 < 16) = false := decide_eq_false c4
        clear c4
        have H' := Aside0.mk H
        clear H
        obtain ⟨Ao31, co31, eo31⟩ := Kd.R_slice HO_4.out
        subst eo31
        go_wp2
        repeat (go_quiet (fail); try go_wp2)
        go_loopg [0, 10, 65] k1 (fun kq v0 v10 v65 w' => ∃ (x0_2 : Int) (x10_2 : Int) (x65_2 : Int), v0 = .int .u16 x0_2 ∧ v10 = .int .u16 x10_2 ∧ v65 = .int .i64 x65_2 ∧ Aside0 (impl_halfRoot.l2 kq x0_2 x10_2 x4_1 (x4_1.length : Int) x65_2 = some (r1, r2)) ∧ Aside0 (kq ≤ k1) ∧ Aside0 (Kd.R k175 175 w' w.heap.size (fun _ => True) (.slice Ao31 x4_1.length co31) x4_1) ∧ Aside0 (Below w.heap.size w w'))
        case atStart => exact ⟨(a0), (0), (0), (by first | rfl | (simp; done) | (simp [*]; done)), (by first | rfl | (simp; done) | (simp [*]; done)), (by first | rfl | (simp; done) | (simp [*]; done)), H', ⟨Nat.le_refl _⟩, ⟨by (with_reducible repeat (first | apply Kd.R_alloc | apply Kd.R_drewN | apply Kd.R_drew)); exact HO_4.out⟩, ⟨by repeat (first | (with_reducible first | exact HB.out | apply below_alloc | apply pw_below_drewN | apply below_drew1) | exact HB.out)⟩⟩
        case round =>
          clear H'
          try clear c1
          try clear p1
          try clear q1
          try clear hx1
          try clear c2
          try clear p2
          try clear c4
          try clear c4b0
          try clear c5
          try clear c5b0
          try clear c5b1
          try clear p6
          try clear c9
          try clear p10
          try clear q10
          try clear hx10
          try clear c11
          try clear c11b0
          try clear c12
          try clear c12b0
          try clear c13
          try clear c13b0
          try clear c14
          try clear c14b0
          try clear c16
          try clear c20
          try clear c23
          try clear c23b0
          try clear c23b1
          try clear c25
          try clear hcz17_0
          try clear hcz17_1
          try clear hcz18_0
          try clear hcz18_1
          try clear hcz21_0
          try clear hcz21_1
          try clear hcz22_0
          try clear hcz22_1
          try clear hcz24_0
          try clear hcz24_1
          try clear hcz27_0
          try clear hcz27_1
          try clear hcz9_0
          try clear hcz9_1
          try clear hfz17_0
          try clear hfz17_1
          try clear hfz18_0
          try clear hfz18_1
          try clear hfz21_0
          try clear hfz21_1
          try clear hfz22_0
          try clear hfz22_1
          try clear hfz24_0
          try clear hfz24_1
          try clear hfz27_0
          try clear hfz27_1
          try clear hfz9_0
          try clear hfz9_1
          try clear hx106_0
          try clear hx106_1
          try clear p106
          try clear p2
          try clear q106
          obtain ⟨x0_2, x10_2, x65_2, rfl, rfl, rfl, HA, HK2, HO_63, HB⟩ := hrel
          cases gk with
          | zero => exact absurd HA.out (by simp [impl_halfRoot.l2])
          | succ k2 =>
            have H := HA.out
            clear HA
            simp only [impl_halfRoot.l2] at H
            by_cases c32 : x65_2 < (x4_1.length : Int)
            · rw [if_pos c32] at H
              have c32b0 : decide (x65_2 < (x4_1.length : Int)) = true := decide_eq_true c32
              clear c32
              by_cases c33 : 0 ≤ x65_2
              · rw [if_pos c33] at H
                have c33b0 : decide (0 ≤ x65_2) = true := decide_eq_true c33
                clear c33
                by_cases c34 : x65_2 < (x4_1.length : Int)
                · rw [if_pos c34] at H
                  have c34b0 : decide (x65_2 < (x4_1.length : Int)) = true := decide_eq_true c34
                  clear c34
                  by_cases c35 : (Go.bits .xor .u16 x0_2 ((rd_T175 x4_1 x65_2).f0)) < x0_2
                  · rw [if_pos c35] at H
                    have c35b0 : decide ((Go.bits .xor .u16 x0_2 ((rd_T175 x4_1 x65_2).f0)) < x0_2) = true := decide_eq_true c35
                    clear c35
                    have H' := Aside0.mk H
                    clear H
                    have p112 : 0 ≤ (x65_2 : Int) := of_decide_eq_true (by first | (with_reducible assumption) | assumption)
                    have q112 : x65_2 < (x4_1.length : Int) := of_decide_eq_true (by first | (with_reducible assumption) | assumption)
                    obtain ⟨ad112, e112, hx112_0, hx112_1⟩ := at_T175 (Kd.R_reads' HO_63.out).2.2 x65_2 p112 q112
                    cases e112
                    replace p112 := eq_true p112
                    replace q112 := eq_true q112
                    go_wp2_with (first | ((with_reducible refine gate_dst (N := 12) rfl ?_); refine box_event ?hg (N := 12) ?hd (cs := #[.int .u16 0, .int .u16 0]) (t := 175) ?hr ?_; (case hd => rfl); (case hg => rfl); (case hr => first | (go_simp; done) | (go_simp; rfl)); intro gb113 hg w36 hbox hb; have n0_ := Aside0.mk (Kd.R_below (Kd.R_elderB (by (with_reducible repeat (first | apply Kd.R_alloc | apply Kd.R_drewN | apply Kd.R_drew)); exact HO_63.out) gb113 (Nat.le_of_eq hg.symm)) hb); have n1_ := Aside0.mk (below_step (by repeat (first | (with_reducible first | exact HB.out | apply below_alloc | apply pw_below_drewN | apply below_drew1) | exact HB.out)) hb); have n2_ := Aside0.mk (hbox); have n3_ := Aside0.mk ((by rw [hg]; exact (below_size (by repeat (first | (with_reducible first | exact HB.out | apply below_alloc | apply pw_below_drewN | apply below_drew1) | exact HB.out))) : w.heap.size ≤ gb113)); have n4_ := Aside0.mk ((by rw [hg]; exact (below_size (by repeat (first | (with_reducible first | exact HB.out | apply below_alloc | apply pw_below_drewN | apply below_drew1) | exact HB.out))) : w.heap.size ≤ gb113)); clear HO_63; clear HB; have HO_63 := n0_; have HB := n1_; have BK113 := n2_; have GW113 := n3_; have GE113 := n4_; clear n0_ n1_ n2_ n3_ n4_; clear hb hbox hg; have hcz37_0 : w36.cell? ⟨gb113, 0, none⟩ = some (.int .u16 0) := (blk_cell BK113.out 0).trans rfl; have hcz37_1 : w36.cell? ⟨gb113, 1, none⟩ = some (.int .u16 0) := (blk_cell BK113.out 1).trans rfl; have hfz37_0 := blk_frozen BK113.out 0; have hfz37_1 := blk_frozen BK113.out 1))
                    repeat (go_quiet (first | ((with_reducible refine gate_dst (N := 12) rfl ?_); refine box_event ?hg (N := 12) ?hd (cs := #[.int .u16 0, .int .u16 0]) (t := 175) ?hr ?_; (case hd => rfl); (case hg => rfl); (case hr => first | (go_simp; done) | (go_simp; rfl)); intro gb113 hg w36 hbox hb; have n0_ := Aside0.mk (Kd.R_below (Kd.R_elderB (by (with_reducible repeat (first | apply Kd.R_alloc | apply Kd.R_drewN | apply Kd.R_drew)); exact HO_63.out) gb113 (Nat.le_of_eq hg.symm)) hb); have n1_ := Aside0.mk (below_step (by repeat (first | (with_reducible first | exact HB.out | apply below_alloc | apply pw_below_drewN | apply below_drew1) | exact HB.out)) hb); have n2_ := Aside0.mk (hbox); have n3_ := Aside0.mk ((by rw [hg]; exact (below_size (by repeat (first | (with_reducible first | exact HB.out | apply below_alloc | apply pw_below_drewN | apply below_drew1) | exact HB.out))) : w.heap.size ≤ gb113)); have n4_ := Aside0.mk ((by rw [hg]; exact (below_size (by repeat (first | (with_reducible first | exact HB.out | apply below_alloc | apply pw_below_drewN | apply below_drew1) | exact HB.out))) : w.heap.size ≤ gb113)); clear HO_63; clear HB; have HO_63 := n0_; have HB := n1_; have BK113 := n2_; have GW113 := n3_; have GE113 := n4_; clear n0_ n1_ n2_ n3_ n4_; clear hb hbox hg; have hcz37_0 : w36.cell? ⟨gb113, 0, none⟩ = some (.int .u16 0) := (blk_cell BK113.out 0).trans rfl; have hcz37_1 : w36.cell? ⟨gb113, 1, none⟩ = some (.int .u16 0) := (blk_cell BK113.out 1).trans rfl; have hfz37_0 := blk_frozen BK113.out 0; have hfz37_1 := blk_frozen BK113.out 1)); try go_wp2_with (first | ((with_reducible refine gate_dst (N := 12) rfl ?_); refine box_event ?hg (N := 12) ?hd (cs := #[.int .u16 0, .int .u16 0]) (t := 175) ?hr ?_; (case hd => rfl); (case hg => rfl); (case hr => first | (go_simp; done) | (go_simp; rfl)); intro gb113 hg w36 hbox hb; have n0_ := Aside0.mk (Kd.R_below (Kd.R_elderB (by (with_reducible repeat (first | apply Kd.R_alloc | apply Kd.R_drewN | apply Kd.R_drew)); exact HO_63.out) gb113 (Nat.le_of_eq hg.symm)) hb); have n1_ := Aside0.mk (below_step (by repeat (first | (with_reducible first | exact HB.out | apply below_alloc | apply pw_below_drewN | apply below_drew1) | exact HB.out)) hb); have n2_ := Aside0.mk (hbox); have n3_ := Aside0.mk ((by rw [hg]; exact (below_size (by repeat (first | (with_reducible first | exact HB.out | apply below_alloc | apply pw_below_drewN | apply below_drew1) | exact HB.out))) : w.heap.size ≤ gb113)); have n4_ := Aside0.mk ((by rw [hg]; exact (below_size (by repeat (first | (with_reducible first | exact HB.out | apply below_alloc | apply pw_below_drewN | apply below_drew1) | exact HB.out))) : w.heap.size ≤ gb113)); clear HO_63; clear HB; have HO_63 := n0_; have HB := n1_; have BK113 := n2_; have GW113 := n3_; have GE113 := n4_; clear n0_ n1_ n2_ n3_ n4_; clear hb hbox hg; have hcz37_0 : w36.cell? ⟨gb113, 0, none⟩ = some (.int .u16 0) := (blk_cell BK113.out 0).trans rfl; have hcz37_1 : w36.cell? ⟨gb113, 1, none⟩ = some (.int .u16 0) := (blk_cell BK113.out 1).trans rfl; have hfz37_0 := blk_frozen BK113.out 0; have hfz37_1 := blk_frozen BK113.out 1)))
                    go_roundg k2
                    case measure => have := HK1.out; have := HK2.out; omega
                    case rel => exact ⟨(Go.bits .xor .u16 x0_2 ((rd_T175 x4_1 x65_2).f0)), (Go.bits .xor .u16 x10_2 ((rd_T175 x4_1 x65_2).f1)), (wrap64 (x65_2 + 1)), (by first | rfl | (simp; done) | (simp [*]; done)), (by first | rfl | (simp; done) | (simp [*]; done)), (by first | rfl | (simp; done) | (simp [*]; done)), H', ⟨by have := HK1.out; have := HK2.out; omega⟩, ⟨by (with_reducible repeat (first | apply Kd.R_alloc | apply Kd.R_drewN | apply Kd.R_drew)); exact Kd.R_mono (Kd.R_far (p := ⟨gb113, 1, none⟩) (Kd.R_far (p := ⟨gb113, 0, none⟩) (Kd.R_mono HO_63.out (fun k_ hk => (⟨hk, hk.2⟩ : _ ∧ k_ ≠ gb113))) (fun _ hk => hk.2) (.int .u16 ((rd_T175 x4_1 x65_2).f0))) (fun _ hk => hk.2) (.int .u16 ((rd_T175 x4_1 x65_2).f1))) (fun _ hk => trivial)⟩, ⟨by repeat (first | (with_reducible first | exact HB.out | apply below_alloc | apply pw_below_drewN | apply below_drew1 | refine below_set ?_ GE113.out) | exact HB.out)⟩⟩
                  · rw [if_neg c35] at H
                    have c35b0 : decide ((Go.bits .xor .u16 x0_2 ((rd_T175 x4_1 x65_2).f0)) < x0_2) = false := decide_eq_false c35
                    clear c35
                    have H' := Aside0.mk H
                    clear H
                    have p112 : 0 ≤ (x65_2 : Int) := of_decide_eq_true (by first | (with_reducible assumption) | assumption)
                    have q112 : x65_2 < (x4_1.length : Int) := of_decide_eq_true (by first | (with_reducible assumption) | assumption)
                    obtain ⟨ad112, e112, hx112_0, hx112_1⟩ := at_T175 (Kd.R_reads' HO_63.out).2.2 x65_2 p112 q112
                    cases e112
                    replace p112 := eq_true p112
                    replace q112 := eq_true q112
                    go_wp2_with (first | ((with_reducible refine gate_dst (N := 12) rfl ?_); refine box_event ?hg (N := 12) ?hd (cs := #[.int .u16 0, .int .u16 0]) (t := 175) ?hr ?_; (case hd => rfl); (case hg => rfl); (case hr => first | (go_simp; done) | (go_simp; rfl)); intro gb113 hg w38 hbox hb; have n0_ := Aside0.mk (Kd.R_below (Kd.R_elderB (by (with_reducible repeat (first | apply Kd.R_alloc | apply Kd.R_drewN | apply Kd.R_drew)); exact HO_63.out) gb113 (Nat.le_of_eq hg.symm)) hb); have n1_ := Aside0.mk (below_step (by repeat (first | (with_reducible first | exact HB.out | apply below_alloc | apply pw_below_drewN | apply below_drew1) | exact HB.out)) hb); have n2_ := Aside0.mk (hbox); have n3_ := Aside0.mk ((by rw [hg]; exact (below_size (by repeat (first | (with_reducible first | exact HB.out | apply below_alloc | apply pw_below_drewN | apply below_drew1) | exact HB.out))) : w.heap.size ≤ gb113)); have n4_ := Aside0.mk ((by rw [hg]; exact (below_size (by repeat (first | (with_reducible first | exact HB.out | apply below_alloc | apply pw_below_drewN | apply below_drew1) | exact HB.out))) : w.heap.size ≤ gb113)); clear HO_63; clear HB; have HO_63 := n0_; have HB := n1_; have BK113 := n2_; have GW113 := n3_; have GE113 := n4_; clear n0_ n1_ n2_ n3_ n4_; clear hb hbox hg; have hcz39_0 : w38.cell? ⟨gb113, 0, none⟩ = some (.int .u16 0) := (blk_cell BK113.out 0).trans rfl; have hcz39_1 : w38.cell? ⟨gb113, 1, none⟩ = some (.int .u16 0) := (blk_cell BK113.out 1).trans rfl; have hfz39_0 := blk_frozen BK113.out 0; have hfz39_1 := blk_frozen BK113.out 1))
                    repeat (go_quiet (first | ((with_reducible refine gate_dst (N := 12) rfl ?_); refine box_event ?hg (N := 12) ?hd (cs := #[.int .u16 0, .int .u16 0]) (t := 175) ?hr ?_; (case hd => rfl); (case hg => rfl); (case hr => first | (go_simp; done) | (go_simp; rfl)); intro gb113 hg w38 hbox hb; have n0_ := Aside0.mk (Kd.R_below (Kd.R_elderB (by (with_reducible repeat (first | apply Kd.R_alloc | apply Kd.R_drewN | apply Kd.R_drew)); exact HO_63.out) gb113 (Nat.le_of_eq hg.symm)) hb); have n1_ := Aside0.mk (below_step (by repeat (first | (with_reducible first | exact HB.out | apply below_alloc | apply pw_below_drewN | apply below_drew1) | exact HB.out)) hb); have n2_ := Aside0.mk (hbox); have n3_ := Aside0.mk ((by rw [hg]; exact (below_size (by repeat (first | (with_reducible first | exact HB.out | apply below_alloc | apply pw_below_drewN | apply below_drew1) | exact HB.out))) : w.heap.size ≤ gb113)); have n4_ := Aside0.mk ((by rw [hg]; exact (below_size (by repeat (first | (with_reducible first | exact HB.out | apply below_alloc | apply pw_below_drewN | apply below_drew1) | exact HB.out))) : w.heap.size ≤ gb113)); clear HO_63; clear HB; have HO_63 := n0_; have HB := n1_; have BK113 := n2_; have GW113 := n3_; have GE113 := n4_; clear n0_ n1_ n2_ n3_ n4_; clear hb hbox hg; have hcz39_0 : w38.cell? ⟨gb113, 0, none⟩ = some (.int .u16 0) := (blk_cell BK113.out 0).trans rfl; have hcz39_1 : w38.cell? ⟨gb113, 1, none⟩ = some (.int .u16 0) := (blk_cell BK113.out 1).trans rfl; have hfz39_0 := blk_frozen BK113.out 0; have hfz39_1 := blk_frozen BK113.out 1)); try go_wp2_with (first | ((with_reducible refine gate_dst (N := 12) rfl ?_); refine box_event ?hg (N := 12) ?hd (cs := #[.int .u16 0, .int .u16 0]) (t := 175) ?hr ?_; (case hd => rfl); (case hg => rfl); (case hr => first | (go_simp; done) | (go_simp; rfl)); intro gb113 hg w38 hbox hb; have n0_ := Aside0.mk (Kd.R_below (Kd.R_elderB (by (with_reducible repeat (first | apply Kd.R_alloc | apply Kd.R_drewN | apply Kd.R_drew)); exact HO_63.out) gb113 (Nat.le_of_eq hg.symm)) hb); have n1_ := Aside0.mk (below_step (by repeat (first | (with_reducible first | exact HB.out | apply below_alloc | apply pw_below_drewN | apply below_drew1) | exact HB.out)) hb); have n2_ := Aside0.mk (hbox); have n3_ := Aside0.mk ((by rw [hg]; exact (below_size (by repeat (first | (with_reducible first | exact HB.out | apply below_alloc | apply pw_below_drewN | apply below_drew1) | exact HB.out))) : w.heap.size ≤ gb113)); have n4_ := Aside0.mk ((by rw [hg]; exact (below_size (by repeat (first | (with_reducible first | exact HB.out | apply below_alloc | apply pw_below_drewN | apply below_drew1) | exact HB.out))) : w.heap.size ≤ gb113)); clear HO_63; clear HB; have HO_63 := n0_; have HB := n1_; have BK113 := n2_; have GW113 := n3_; have GE113 := n4_; clear n0_ n1_ n2_ n3_ n4_; clear hb hbox hg; have hcz39_0 : w38.cell? ⟨gb113, 0, none⟩ = some (.int .u16 0) := (blk_cell BK113.out 0).trans rfl; have hcz39_1 : w38.cell? ⟨gb113, 1, none⟩ = some (.int .u16 0) := (blk_cell BK113.out 1).trans rfl; have hfz39_0 := blk_frozen BK113.out 0; have hfz39_1 := blk_frozen BK113.out 1)))
                    go_roundg k2
                    case measure => have := HK1.out; have := HK2.out; omega
                    case rel => exact ⟨(x0_2), (x10_2), (wrap64 (x65_2 + 1)), (by first | rfl | (simp; done) | (simp [*]; done)), (by first | rfl | (simp; done) | (simp [*]; done)), (by first | rfl | (simp; done) | (simp [*]; done)), H', ⟨by have := HK1.out; have := HK2.out; omega⟩, ⟨by (with_reducible repeat (first | apply Kd.R_alloc | apply Kd.R_drewN | apply Kd.R_drew)); exact Kd.R_mono (Kd.R_far (p := ⟨gb113, 1, none⟩) (Kd.R_far (p := ⟨gb113, 0, none⟩) (Kd.R_mono HO_63.out (fun k_ hk => (⟨hk, hk.2⟩ : _ ∧ k_ ≠ gb113))) (fun _ hk => hk.2) (.int .u16 ((rd_T175 x4_1 x65_2).f0))) (fun _ hk => hk.2) (.int .u16 ((rd_T175 x4_1 x65_2).f1))) (fun _ hk => trivial)⟩, ⟨by repeat (first | (with_reducible first | exact HB.out | apply below_alloc | apply pw_below_drewN | apply below_drew1 | refine below_set ?_ GE113.out) | exact HB.out)⟩⟩
                · rw [if_neg c34] at H
                  exact absurd H (by simp)
              · rw [if_neg c33] at H
                exact absurd H (by simp)
            · rw [if_neg c32] at H
              have c32b0 : decide (x65_2 < (x4_1.length : Int)) = false := decide_eq_false c32
              clear c32
              simp only [Option.some.injEq, Prod.mk.injEq] at H
              obtain ⟨rfl, rfl⟩ := H
              go_wp2
              repeat (go_quiet (fail); try go_wp2)
              go_ret2
              exact ⟨by first | rfl | (simp [errW_none, errW_some] <;> rfl) | (simp [*, errW_none, errW_some] <;> rfl), by repeat (first | (with_reducible first | exact HB.out | apply below_alloc | apply pw_below_drewN | apply below_drew1) | exact HB.out)⟩
end Go.Proofs.Ytadfobooofkelaa.X

-- Laid by wip/xprint.py of this session (the kit's print program, with some contracts given by hand). Not trusted: Lean checks it.
namespace Go.Proofs.Ytadfobooofkelaa.X
open Go.RowKit Go.Proofs.YtadfobooofkelaaW.PrintWords Go.Proofs.YtadfobooofkelaaW.PrintLast Go.Proofs.YtadfobooofkelaaW.PrintMore
attribute [local go_sem] max2_int min2_int max_two min_two max_three min_three max_four min_four
set_option linter.unusedVariables false
set_option linter.unusedSimpArgs false
def impl_HalfRoot.f (k : Nat) (a0 : Int) : Option (Int × Int) := (impl_halfRoot.f k a0).bind fun bt101 => (if bt101.2 = true then (some (bt101.1, 0)) else (some (0, 6)))
set_option maxHeartbeats 8000000 in
set_option maxRecDepth 100000 in
theorem impl_HalfRoot.calls (k : Nat) (a0 : Int) (r1 : Int) (r2 : Int) (w : World) (h : impl_HalfRoot.f k a0 = some (r1, r2)) :
    Calls Try.prog 20 #[.int .u16 a0] w fun e w' => e = .returned (.tuple #[.int .u16 r1, .int .i64 r2]) ∧ Below w.heap.size w w' := by
  have HB := Aside0.mk (Below.refl w.heap.size w)
  have H : ((impl_halfRoot.f k a0).bind fun bt101 => (if bt101.2 = true then (some (bt101.1, 0)) else (some (0, 6)))) = some (r1, r2) := h
  clear h
  replace H := Option.bind_eq_some_iff.mp H
  obtain ⟨⟨t101, t102⟩, A20, H⟩ := H
  replace H : (if t102 = true then (some (t101, 0)) else (some (0, 6))) = some (r1, r2) := H
  have A2 := Aside0.mk A20
  clear A20
  by_cases c3 : t102 = true
  · subst c3
    have H1 : (some (t101, 0)) = some (r1, r2) := by rw [if_pos rfl] at H; exact H
    clear H
    have H := H1
    clear H1
    simp only [Option.some.injEq, Prod.mk.injEq] at H
    obtain ⟨rfl, rfl⟩ := H
    go_enter Try.func20, Try.ntmps20
    go_wp2_with (first | ((with_reducible refine gate_callee (f := 98) rfl ?_); refine goesL_ (some 8) rfl rfl Try.func98 (by kernel_rfl) rfl #[.int .u16 a0] rfl (by (try simp only [List.map_toArray, List.map_cons, List.map_nil]); first | done | rfl | (simp only [List.length_drop, List.length_take]; rfl)) ?_; (with_reducible refine (impl_halfRoot.calls k a0 t101 true _ A2.out).mono ?_); rintro e w4 ⟨rfl, hb⟩; refine ⟨_, rfl, ?_⟩; have n0_ := Aside0.mk (below_step (by repeat (first | (with_reducible first | exact HB.out | apply below_alloc | apply pw_below_drewN | apply below_drew1) | exact HB.out)) hb); clear HB; have HB := n0_; clear n0_; (try clear hb); (try clear hb2); (try clear hk); (try clear hi)))
    go_ret2
    exact ⟨by first | rfl | (simp [errW_none, errW_some] <;> rfl) | (simp [*, errW_none, errW_some] <;> rfl), by repeat (first | (with_reducible first | exact HB.out | apply below_alloc | apply pw_below_drewN | apply below_drew1) | exact HB.out)⟩
  · replace c3 := Bool.eq_false_iff.mpr c3
    subst c3
    have H1 : (some (0, 6)) = some (r1, r2) := by rw [if_neg (show ¬ (false = true) by decide)] at H; exact H
    clear H
    have H := H1
    clear H1
    simp only [Option.some.injEq, Prod.mk.injEq] at H
    obtain ⟨rfl, rfl⟩ := H
    go_enter Try.func20, Try.ntmps20
    go_wp2_with (first | ((with_reducible refine gate_callee (f := 98) rfl ?_); refine goesL_ (some 8) rfl rfl Try.func98 (by kernel_rfl) rfl #[.int .u16 a0] rfl (by (try simp only [List.map_toArray, List.map_cons, List.map_nil]); first | done | rfl | (simp only [List.length_drop, List.length_take]; rfl)) ?_; (with_reducible refine (impl_halfRoot.calls k a0 t101 false _ A2.out).mono ?_); rintro e w5 ⟨rfl, hb⟩; refine ⟨_, rfl, ?_⟩; have n0_ := Aside0.mk (below_step (by repeat (first | (with_reducible first | exact HB.out | apply below_alloc | apply pw_below_drewN | apply below_drew1) | exact HB.out)) hb); clear HB; have HB := n0_; clear n0_; (try clear hb); (try clear hb2); (try clear hk); (try clear hi)))
    go_ret2
    exact ⟨by first | rfl | (simp [errW_none, errW_some] <;> rfl) | (simp [*, errW_none, errW_some] <;> rfl), by repeat (first | (with_reducible first | exact HB.out | apply below_alloc | apply pw_below_drewN | apply below_drew1) | exact HB.out)⟩
end Go.Proofs.Ytadfobooofkelaa.X

-- Laid by wip/xprint.py of this session (the kit's print program, with some contracts given by hand). Not trusted: Lean checks it.
namespace Go.Proofs.Ytadfobooofkelaa.X
open Go.RowKit Go.Proofs.YtadfobooofkelaaW.PrintWords Go.Proofs.YtadfobooofkelaaW.PrintLast Go.Proofs.YtadfobooofkelaaW.PrintMore
attribute [local go_sem] max2_int min2_int max_two min_two max_three min_three max_four min_four
set_option linter.unusedVariables false
set_option linter.unusedSimpArgs false
def laws_a2Long.f (l0 : List Int) (l1 : List Int) : Option (Bool) := if (l0.length : Int) > 3000 then (some true) else (some (decide ((l1.length : Int) > 3000)))
set_option maxHeartbeats 8000000 in
set_option maxRecDepth 100000 in
theorem laws_a2Long.calls (A0 : Option Addr) (c0 : Nat) (l0 : List Int) (A1 : Option Addr) (c1 : Nat) (l1 : List Int) (r : Bool) (w : World) (hr0 : Kd.C (Kd.int .u8) w A0 l0.length l0) (hc0 : l0.length ≤ c0) (hr1 : Kd.C (Kd.int .u8) w A1 l1.length l1) (hc1 : l1.length ≤ c1) (h : laws_a2Long.f l0 l1 = some r) :
    Calls Try.prog 21 #[.slice A0 l0.length c0, .slice A1 l1.length c1] w fun e w' => e = .returned (.bool r) ∧ Drawn0 w w' := by
  have HR0 := Aside0.mk hr0
  have HC0 := Aside0.mk hc0
  clear hr0 hc0
  have HR1 := Aside0.mk hr1
  have HC1 := Aside0.mk hc1
  clear hr1 hc1
  have H : (if (l0.length : Int) > 3000 then (some true) else (some (decide ((l1.length : Int) > 3000)))) = some r := h
  clear h
  by_cases c3 : (l0.length : Int) > 3000
  · rw [if_pos c3] at H
    have c3b0 : decide (3000 < (l0.length : Int)) = true := decide_eq_true c3
    have c3b1 : decide (3000 < l0.length) = true := decide_eq_true (by omega)
    clear c3
    obtain rfl := Option.some.inj H
    go_enter Try.func21, Try.ntmps21
    go_wp2
    go_ret
    exact ⟨by first | rfl | (simp; done) | (simp [*]; done), by repeat (first | exact Drawn0.refl _ | apply Drawn0.step)⟩
  · rw [if_neg c3] at H
    have c3b0 : decide (3000 < (l0.length : Int)) = false := decide_eq_false c3
    have c3b1 : decide (3000 < l0.length) = false := decide_eq_false (by omega)
    clear c3
    obtain rfl := Option.some.inj H
    go_enter Try.func21, Try.ntmps21
    go_wp2
    go_ret
    exact ⟨by first | rfl | (simp; done) | (simp [*]; done), by repeat (first | exact Drawn0.refl _ | apply Drawn0.step)⟩
end Go.Proofs.Ytadfobooofkelaa.X

-- Laid by wip/xprint.py of this session (the kit's print program, with some contracts given by hand). Not trusted: Lean checks it.
namespace Go.Proofs.Ytadfobooofkelaa.X
open Go.RowKit Go.Proofs.YtadfobooofkelaaW.PrintWords Go.Proofs.YtadfobooofkelaaW.PrintLast Go.Proofs.YtadfobooofkelaaW.PrintMore
attribute [local go_sem] max2_int min2_int max_two min_two max_three min_three max_four min_four
set_option linter.unusedVariables false
set_option linter.unusedSimpArgs false
def spec_l05Same.l0 : Nat → List Int → List Int → Int → Option (Bool)
  | 0, _, _, _ => none
  | k + 1, x0, x1, x5 => if x5 < (x0.length : Int) then (if 0 ≤ x5 then (if x5 < (x1.length : Int) then (if (rd x0 x5) = (rd x1 x5) then (spec_l05Same.l0 k x0 x1 (wrap64 (x5 + 1))) else (some false)) else (none)) else (none)) else (some true)
def spec_l05Same.f (k : Nat) (l0 : List Int) (l1 : List Int) : Option (Bool) := if (l0.length : Int) = (l1.length : Int) then (spec_l05Same.l0 k l0 l1 0) else (some false)
set_option maxHeartbeats 8000000 in
set_option maxRecDepth 100000 in
theorem spec_l05Same.calls (k : Nat) (A0 : Option Addr) (c0 : Nat) (l0 : List Int) (A1 : Option Addr) (c1 : Nat) (l1 : List Int) (r : Bool) (w : World) (hr0 : Kd.C (Kd.int .u16) w A0 l0.length l0) (hc0 : l0.length ≤ c0) (hr1 : Kd.C (Kd.int .u16) w A1 l1.length l1) (hc1 : l1.length ≤ c1) (h : spec_l05Same.f k l0 l1 = some r) :
    Calls Try.prog 115 #[.slice A0 l0.length c0, .slice A1 l1.length c1] w fun e w' => e = .returned (.bool r) ∧ Drawn0 w w' := by
  have HR0 := Aside0.mk hr0
  have HC0 := Aside0.mk hc0
  clear hr0 hc0
  have HR1 := Aside0.mk hr1
  have HC1 := Aside0.mk hc1
  clear hr1 hc1
  have H : (if (l0.length : Int) = (l1.length : Int) then (spec_l05Same.l0 k l0 l1 0) else (some false)) = some r := h
  clear h
  by_cases c3 : (l0.length : Int) = (l1.length : Int)
  · rw [if_pos c3] at H
    have c3b0 : ((l0.length : Int) == (l1.length : Int)) = true := beq_iff_eq.mpr c3
    have c3b1 : ((l0.length : Int) != (l1.length : Int)) = false := bne_eq_false_iff_eq.mpr c3
    have c3b2 : (l0.length == l1.length) = true := by first | simpa using c3 | (simp at c3 ⊢; omega)
    clear c3
    have H' := Aside0.mk H
    clear H
    go_enter Try.func115, Try.ntmps115
    go_wp2
    repeat (go_quiet (fail); try go_wp2)
    go_loopg [5] k (fun kq v5 w' => ∃ (x5_1 : Int), v5 = .int .i64 x5_1 ∧ Aside0 (spec_l05Same.l0 kq l0 l1 x5_1 = some r) ∧ Aside0 (kq ≤ k) ∧ Drawn0 w w')
    case atStart => exact ⟨(0), (by first | rfl | (simp; done) | (simp [*]; done)), H', ⟨Nat.le_refl _⟩, by repeat (first | exact Drawn0.refl _ | apply Drawn0.step)⟩
    case round =>
      clear H'
      try clear c1
      try clear p2
      try clear c3
      try clear c3b0
      try clear c3b1
      try clear c3b2
      obtain ⟨x5_1, rfl, HA, HK1, ⟨m1, rfl⟩⟩ := hrel
      cases gk with
      | zero => exact absurd HA.out (by simp [spec_l05Same.l0])
      | succ k1 =>
        have H := HA.out
        clear HA
        simp only [spec_l05Same.l0] at H
        by_cases c4 : x5_1 < (l0.length : Int)
        · rw [if_pos c4] at H
          have c4b0 : decide (x5_1 < (l0.length : Int)) = true := decide_eq_true c4
          clear c4
          by_cases c5 : 0 ≤ x5_1
          · rw [if_pos c5] at H
            have c5b0 : decide (0 ≤ x5_1) = true := decide_eq_true c5
            clear c5
            by_cases c6 : x5_1 < (l1.length : Int)
            · rw [if_pos c6] at H
              have c6b0 : decide (x5_1 < (l1.length : Int)) = true := decide_eq_true c6
              clear c6
              by_cases c7 : (rd l0 x5_1) = (rd l1 x5_1)
              · rw [if_pos c7] at H
                have c7b0 : ((rd l0 x5_1) == (rd l1 x5_1)) = true := beq_iff_eq.mpr c7
                have c7b1 : ((rd l0 x5_1) != (rd l1 x5_1)) = false := bne_eq_false_iff_eq.mpr c7
                clear c7
                have H' := Aside0.mk H
                clear H
                have p101 : 0 ≤ (x5_1 : Int) := of_decide_eq_true (by first | (with_reducible assumption) | assumption)
                have q101 : x5_1 < (l0.length : Int) := of_decide_eq_true (by first | (with_reducible assumption) | assumption)
                obtain ⟨ad101, e101, hx101_0⟩ := Kd.at_int HR0.out x5_1 p101 q101
                cases e101
                replace p101 := eq_true p101
                replace q101 := eq_true q101
                have p102 : 0 ≤ (x5_1 : Int) := of_decide_eq_true (by first | (with_reducible assumption) | assumption)
                have q102 : x5_1 < (l1.length : Int) := of_decide_eq_true (by first | (with_reducible assumption) | assumption)
                obtain ⟨ad102, e102, hx102_0⟩ := Kd.at_int HR1.out x5_1 p102 q102
                cases e102
                replace p102 := eq_true p102
                replace q102 := eq_true q102
                go_wp2
                repeat (go_quiet (fail); try go_wp2)
                go_roundg k1
                case measure => have := HK1.out; omega
                case rel => exact ⟨(wrap64 (x5_1 + 1)), (by first | rfl | (simp; done) | (simp [*]; done)), H', ⟨by have := HK1.out; omega⟩, by repeat (first | exact Drawn0.refl _ | apply Drawn0.step)⟩
              · rw [if_neg c7] at H
                have c7b0 : ((rd l0 x5_1) == (rd l1 x5_1)) = false := beq_eq_false_iff_ne.mpr c7
                have c7b1 : ((rd l0 x5_1) != (rd l1 x5_1)) = true := bne_iff_ne.mpr c7
                obtain rfl := Option.some.inj H
                have p101 : 0 ≤ (x5_1 : Int) := of_decide_eq_true (by first | (with_reducible assumption) | assumption)
                have q101 : x5_1 < (l0.length : Int) := of_decide_eq_true (by first | (with_reducible assumption) | assumption)
                obtain ⟨ad101, e101, hx101_0⟩ := Kd.at_int HR0.out x5_1 p101 q101
                cases e101
                replace p101 := eq_true p101
                replace q101 := eq_true q101
                have p102 : 0 ≤ (x5_1 : Int) := of_decide_eq_true (by first | (with_reducible assumption) | assumption)
                have q102 : x5_1 < (l1.length : Int) := of_decide_eq_true (by first | (with_reducible assumption) | assumption)
                obtain ⟨ad102, e102, hx102_0⟩ := Kd.at_int HR1.out x5_1 p102 q102
                cases e102
                replace p102 := eq_true p102
                replace q102 := eq_true q102
                go_wp2
                repeat (go_quiet (fail); try go_wp2)
                go_ret
                exact ⟨by first | rfl | (simp; done) | (simp [*]; done), by repeat (first | exact Drawn0.refl _ | apply Drawn0.step)⟩
            · rw [if_neg c6] at H
              exact absurd H (by simp)
          · rw [if_neg c5] at H
            exact absurd H (by simp)
        · rw [if_neg c4] at H
          have c4b0 : decide (x5_1 < (l0.length : Int)) = false := decide_eq_false c4
          clear c4
          obtain rfl := Option.some.inj H
          go_wp2
          repeat (go_quiet (fail); try go_wp2)
          go_ret
          exact ⟨by first | rfl | (simp; done) | (simp [*]; done), by repeat (first | exact Drawn0.refl _ | apply Drawn0.step)⟩
  · rw [if_neg c3] at H
    have c3b0 : ((l0.length : Int) == (l1.length : Int)) = false := beq_eq_false_iff_ne.mpr c3
    have c3b1 : ((l0.length : Int) != (l1.length : Int)) = true := bne_iff_ne.mpr c3
    have c3b2 : (l0.length == l1.length) = false := by first | simpa using c3 | (simp at c3 ⊢; omega)
    obtain rfl := Option.some.inj H
    go_enter Try.func115, Try.ntmps115
    go_wp2
    repeat (go_quiet (fail); try go_wp2)
    go_ret
    exact ⟨by first | rfl | (simp; done) | (simp [*]; done), by repeat (first | exact Drawn0.refl _ | apply Drawn0.step)⟩
end Go.Proofs.Ytadfobooofkelaa.X
