/- Texts of this claim, joined: what the claim's last text comes to. They hold without any condition beyond those that each states. -/
import Derived.Test.YteanndgkjoinmaaYFirst2
-- Laid by wip/xprint.py of this session (the kit's print program, with some contracts given by hand). Not trusted: Lean checks it.
namespace Go.Proofs.Yteanndgkjoinmaa.X
open Go.RowKit Go.Proofs.YteanndgkjoinmaaW.PrintWords Go.Proofs.YteanndgkjoinmaaW.PrintLast Go.Proofs.YteanndgkjoinmaaW.PrintMore
attribute [local go_sem] max2_int min2_int max_two min_two max_three min_three max_four min_four
set_option linter.unusedVariables false
set_option linter.unusedSimpArgs false
def spec_l01Times.f (a0 a1 : Int) : Option Int := if 0 ≤ a0 ∧ a0 < 65536 ∧ 0 ≤ a1 ∧ a1 < 65536 then some (Nim.nmI 4 a0 a1) else none
theorem spec_l01Times.small (k : Nat) (x y : Int) (w : World) (hx0 : 0 ≤ x) (hy0 : 0 ≤ y) (hx : x < 65536) (hy : y < 65536) (h : x < 2 ∨ y < 2) :
    Calls Try.prog 89 #[.int .u16 x, .int .u16 y] w fun e w' => e = .returned (.int .u16 (Nim.nmI k x y)) ∧ w' = w := by
  have hf := Nim.nmI_small k x y hx0 hy0 h
  have hm : IntKind.u16.wrap (x * y) = Nim.nmI k x y := by
    rw [hf, Nim.wrap_u16]
    rcases h with h | h
    · rcases (show x = 0 ∨ x = 1 by omega) with rfl | rfl <;> omega
    · rcases (show y = 0 ∨ y = 1 by omega) with rfl | rfl <;> omega
  have HM := Aside0.mk hm
  clear hf hm
  by_cases hx2 : x < 2
  · clear h
    go_enter Try.func89, Try.ntmps89
    go_wp2
    go_ret
    exact ⟨by rw [← HM.out]; rfl, rfl⟩
  · have hy2 : y < 2 := by omega
    clear h
    go_enter Try.func89, Try.ntmps89
    go_wp2
    go_ret
    exact ⟨by rw [← HM.out]; rfl, rfl⟩
set_option maxHeartbeats 2000000 in
set_option maxRecDepth 100000 in
theorem spec_l01Times.step0 (x y : Int) (w : World) (hx0 : 2 ≤ x) (hy0 : 2 ≤ y) (hx : x < 4) (hy : y < 4) (hbig : 2 ≤ x ∨ 2 ≤ y)
    (ih : ∀ (x y : Int) (w : World), 0 ≤ x → x < 2 → 0 ≤ y → y < 2 → Calls Try.prog 89 #[.int .u16 x, .int .u16 y] w fun e w' => e = .returned (.int .u16 (Nim.nmI 0 x y)) ∧ w' = w) :
    Calls Try.prog 89 #[.int .u16 x, .int .u16 y] w fun e w' => e = .returned (.int .u16 (Nim.nmI 1 x y)) ∧ w' = w := by
  have IH := Aside0.mk ih
  clear ih
  have HF := Aside0.mk (Nim.nmI_step 0 2 (by decide) (by decide) x y (by omega) (by omega) (by omega) (by omega))
  have f0 : decide (x < 2) = false := by simp; omega
  have f1 : decide (y < 2) = false := by simp; omega
  go_enter Try.func89, Try.ntmps89
  go_wp2_with (fail)
  go_loop [5] (fun v => v = .int .u64 1) (fun v => 9 - (intOf v).toNat)
  case atStart => exact rfl
  case round =>
    obtain rfl := hrel
    have h1 : x / 4 = 0 := by omega
    have h2 : (y / 4 != 0) = false := by rw [bne_eq_false_iff_eq]; omega
    have b1 : 0 ≤ x / 2 ∧ x / 2 < 2 := by omega
    have b2 : 0 ≤ y / 2 ∧ y / 2 < 2 := by omega
    have b3 : 0 ≤ x % 2 ∧ x % 2 < 2 := by omega
    have b4 : 0 ≤ y % 2 ∧ y % 2 < 2 := by omega
    have p0 := Nim.nmI_lt 0 2 (by decide) (x / 2) (y / 2) (by omega) (by omega) (by omega) (by omega)
    go_wp2_with fail
    refine (IH.out _ _ _ (by omega) (by omega) (by omega) (by omega)).mono ?_
    rintro e w' ⟨rfl, rfl⟩
    go_wp2_with fail
    refine (IH.out _ _ _ (by omega) (by omega) (by omega) (by omega)).mono ?_
    rintro e w' ⟨rfl, rfl⟩
    go_wp2_with fail
    refine (IH.out _ _ _ (by omega) (by omega) (by omega) (by omega)).mono ?_
    rintro e w' ⟨rfl, rfl⟩
    go_wp2_with fail
    refine (IH.out _ _ _ (by omega) (by omega) (by omega) (by omega)).mono ?_
    rintro e w' ⟨rfl, rfl⟩
    go_wp2_with fail
    refine (IH.out _ _ _ (by omega) (by omega) (by omega) (by omega)).mono ?_
    rintro e w' ⟨rfl, rfl⟩
    go_wp2_with fail
    go_ret
    exact ⟨by rw [← HF.out]; rfl, rfl⟩
set_option maxHeartbeats 2000000 in
set_option maxRecDepth 100000 in
theorem spec_l01Times.step1 (x y : Int) (w : World) (hx0 : 2 ≤ x) (hy0 : 2 ≤ y) (hx : x < 16) (hy : y < 16) (hbig : 4 ≤ x ∨ 4 ≤ y)
    (ih : ∀ (x y : Int) (w : World), 0 ≤ x → x < 4 → 0 ≤ y → y < 4 → Calls Try.prog 89 #[.int .u16 x, .int .u16 y] w fun e w' => e = .returned (.int .u16 (Nim.nmI 1 x y)) ∧ w' = w) :
    Calls Try.prog 89 #[.int .u16 x, .int .u16 y] w fun e w' => e = .returned (.int .u16 (Nim.nmI 2 x y)) ∧ w' = w := by
  have IH := Aside0.mk ih
  clear ih
  have HF := Aside0.mk (Nim.nmI_step 1 4 (by decide) (by decide) x y (by omega) (by omega) (by omega) (by omega))
  have f0 : decide (x < 2) = false := by simp; omega
  have f1 : decide (y < 2) = false := by simp; omega
  go_enter Try.func89, Try.ntmps89
  go_wp2_with (fail)
  go_loop [5] (fun v => v = .int .u64 1 ∨ v = .int .u64 2) (fun v => 9 - (intOf v).toNat)
  case atStart => exact .inl rfl
  case round =>
    rcases hrel with rfl | rfl
    · by_cases h1 : x / 4 = 0
      · have h2 : (y / 4 != 0) = true := by rw [bne_iff_ne]; omega
        go_wp2_with fail
        exact ⟨(.inr rfl), by simp [intOf]⟩
      · go_wp2_with fail
        exact ⟨(.inr rfl), by simp [intOf]⟩
    · have h1 : x / 16 = 0 := by omega
      have h2 : (y / 16 != 0) = false := by rw [bne_eq_false_iff_eq]; omega
      have b1 : 0 ≤ x / 4 ∧ x / 4 < 4 := by omega
      have b2 : 0 ≤ y / 4 ∧ y / 4 < 4 := by omega
      have b3 : 0 ≤ x % 4 ∧ x % 4 < 4 := by omega
      have b4 : 0 ≤ y % 4 ∧ y % 4 < 4 := by omega
      have p0 := Nim.nmI_lt 1 4 (by decide) (x / 4) (y / 4) (by omega) (by omega) (by omega) (by omega)
      go_wp2_with fail
      refine (IH.out _ _ _ (by omega) (by omega) (by omega) (by omega)).mono ?_
      rintro e w' ⟨rfl, rfl⟩
      go_wp2_with fail
      refine (IH.out _ _ _ (by omega) (by omega) (by omega) (by omega)).mono ?_
      rintro e w' ⟨rfl, rfl⟩
      go_wp2_with fail
      refine (IH.out _ _ _ (by omega) (by omega) (by omega) (by omega)).mono ?_
      rintro e w' ⟨rfl, rfl⟩
      go_wp2_with fail
      refine (IH.out _ _ _ (by omega) (by omega) (by omega) (by omega)).mono ?_
      rintro e w' ⟨rfl, rfl⟩
      go_wp2_with fail
      refine (IH.out _ _ _ (by omega) (by omega) (by omega) (by omega)).mono ?_
      rintro e w' ⟨rfl, rfl⟩
      go_wp2_with fail
      go_ret
      exact ⟨by rw [← HF.out]; rfl, rfl⟩
set_option maxHeartbeats 2000000 in
set_option maxRecDepth 100000 in
theorem spec_l01Times.step2 (x y : Int) (w : World) (hx0 : 2 ≤ x) (hy0 : 2 ≤ y) (hx : x < 256) (hy : y < 256) (hbig : 16 ≤ x ∨ 16 ≤ y)
    (ih : ∀ (x y : Int) (w : World), 0 ≤ x → x < 16 → 0 ≤ y → y < 16 → Calls Try.prog 89 #[.int .u16 x, .int .u16 y] w fun e w' => e = .returned (.int .u16 (Nim.nmI 2 x y)) ∧ w' = w) :
    Calls Try.prog 89 #[.int .u16 x, .int .u16 y] w fun e w' => e = .returned (.int .u16 (Nim.nmI 3 x y)) ∧ w' = w := by
  have IH := Aside0.mk ih
  clear ih
  have HF := Aside0.mk (Nim.nmI_step 2 16 (by decide) (by decide) x y (by omega) (by omega) (by omega) (by omega))
  have f0 : decide (x < 2) = false := by simp; omega
  have f1 : decide (y < 2) = false := by simp; omega
  go_enter Try.func89, Try.ntmps89
  go_wp2_with (fail)
  go_loop [5] (fun v => v = .int .u64 1 ∨ v = .int .u64 2 ∨ v = .int .u64 4) (fun v => 9 - (intOf v).toNat)
  case atStart => exact .inl rfl
  case round =>
    rcases hrel with rfl | rfl | rfl
    · by_cases h1 : x / 4 = 0
      · have h2 : (y / 4 != 0) = true := by rw [bne_iff_ne]; omega
        go_wp2_with fail
        exact ⟨(.inr (.inl rfl)), by simp [intOf]⟩
      · go_wp2_with fail
        exact ⟨(.inr (.inl rfl)), by simp [intOf]⟩
    · by_cases h1 : x / 16 = 0
      · have h2 : (y / 16 != 0) = true := by rw [bne_iff_ne]; omega
        go_wp2_with fail
        exact ⟨(.inr (.inr rfl)), by simp [intOf]⟩
      · go_wp2_with fail
        exact ⟨(.inr (.inr rfl)), by simp [intOf]⟩
    · have h1 : x / 256 = 0 := by omega
      have h2 : (y / 256 != 0) = false := by rw [bne_eq_false_iff_eq]; omega
      have b1 : 0 ≤ x / 16 ∧ x / 16 < 16 := by omega
      have b2 : 0 ≤ y / 16 ∧ y / 16 < 16 := by omega
      have b3 : 0 ≤ x % 16 ∧ x % 16 < 16 := by omega
      have b4 : 0 ≤ y % 16 ∧ y % 16 < 16 := by omega
      have p0 := Nim.nmI_lt 2 16 (by decide) (x / 16) (y / 16) (by omega) (by omega) (by omega) (by omega)
      go_wp2_with fail
      refine (IH.out _ _ _ (by omega) (by omega) (by omega) (by omega)).mono ?_
      rintro e w' ⟨rfl, rfl⟩
      go_wp2_with fail
      refine (IH.out _ _ _ (by omega) (by omega) (by omega) (by omega)).mono ?_
      rintro e w' ⟨rfl, rfl⟩
      go_wp2_with fail
      refine (IH.out _ _ _ (by omega) (by omega) (by omega) (by omega)).mono ?_
      rintro e w' ⟨rfl, rfl⟩
      go_wp2_with fail
      refine (IH.out _ _ _ (by omega) (by omega) (by omega) (by omega)).mono ?_
      rintro e w' ⟨rfl, rfl⟩
      go_wp2_with fail
      refine (IH.out _ _ _ (by omega) (by omega) (by omega) (by omega)).mono ?_
      rintro e w' ⟨rfl, rfl⟩
      go_wp2_with fail
      go_ret
      exact ⟨by rw [← HF.out]; rfl, rfl⟩
set_option maxHeartbeats 2000000 in
set_option maxRecDepth 100000 in
theorem spec_l01Times.step3 (x y : Int) (w : World) (hx0 : 2 ≤ x) (hy0 : 2 ≤ y) (hx : x < 65536) (hy : y < 65536) (hbig : 256 ≤ x ∨ 256 ≤ y)
    (ih : ∀ (x y : Int) (w : World), 0 ≤ x → x < 256 → 0 ≤ y → y < 256 → Calls Try.prog 89 #[.int .u16 x, .int .u16 y] w fun e w' => e = .returned (.int .u16 (Nim.nmI 3 x y)) ∧ w' = w) :
    Calls Try.prog 89 #[.int .u16 x, .int .u16 y] w fun e w' => e = .returned (.int .u16 (Nim.nmI 4 x y)) ∧ w' = w := by
  have IH := Aside0.mk ih
  clear ih
  have HF := Aside0.mk (Nim.nmI_step 3 256 (by decide) (by decide) x y (by omega) (by omega) (by omega) (by omega))
  have f0 : decide (x < 2) = false := by simp; omega
  have f1 : decide (y < 2) = false := by simp; omega
  go_enter Try.func89, Try.ntmps89
  go_wp2_with (fail)
  go_loop [5] (fun v => v = .int .u64 1 ∨ v = .int .u64 2 ∨ v = .int .u64 4 ∨ v = .int .u64 8) (fun v => 9 - (intOf v).toNat)
  case atStart => exact .inl rfl
  case round =>
    rcases hrel with rfl | rfl | rfl | rfl
    · by_cases h1 : x / 4 = 0
      · have h2 : (y / 4 != 0) = true := by rw [bne_iff_ne]; omega
        go_wp2_with fail
        exact ⟨(.inr (.inl rfl)), by simp [intOf]⟩
      · go_wp2_with fail
        exact ⟨(.inr (.inl rfl)), by simp [intOf]⟩
    · by_cases h1 : x / 16 = 0
      · have h2 : (y / 16 != 0) = true := by rw [bne_iff_ne]; omega
        go_wp2_with fail
        exact ⟨(.inr (.inr (.inl rfl))), by simp [intOf]⟩
      · go_wp2_with fail
        exact ⟨(.inr (.inr (.inl rfl))), by simp [intOf]⟩
    · by_cases h1 : x / 256 = 0
      · have h2 : (y / 256 != 0) = true := by rw [bne_iff_ne]; omega
        go_wp2_with fail
        exact ⟨(.inr (.inr (.inr rfl))), by simp [intOf]⟩
      · go_wp2_with fail
        exact ⟨(.inr (.inr (.inr rfl))), by simp [intOf]⟩
    · have b1 : 0 ≤ x / 256 ∧ x / 256 < 256 := by omega
      have b2 : 0 ≤ y / 256 ∧ y / 256 < 256 := by omega
      have b3 : 0 ≤ x % 256 ∧ x % 256 < 256 := by omega
      have b4 : 0 ≤ y % 256 ∧ y % 256 < 256 := by omega
      have p0 := Nim.nmI_lt 3 256 (by decide) (x / 256) (y / 256) (by omega) (by omega) (by omega) (by omega)
      go_wp2_with fail
      refine (IH.out _ _ _ (by omega) (by omega) (by omega) (by omega)).mono ?_
      rintro e w' ⟨rfl, rfl⟩
      go_wp2_with fail
      refine (IH.out _ _ _ (by omega) (by omega) (by omega) (by omega)).mono ?_
      rintro e w' ⟨rfl, rfl⟩
      go_wp2_with fail
      refine (IH.out _ _ _ (by omega) (by omega) (by omega) (by omega)).mono ?_
      rintro e w' ⟨rfl, rfl⟩
      go_wp2_with fail
      refine (IH.out _ _ _ (by omega) (by omega) (by omega) (by omega)).mono ?_
      rintro e w' ⟨rfl, rfl⟩
      go_wp2_with fail
      refine (IH.out _ _ _ (by omega) (by omega) (by omega) (by omega)).mono ?_
      rintro e w' ⟨rfl, rfl⟩
      go_wp2_with fail
      go_ret
      exact ⟨by rw [← HF.out]; rfl, rfl⟩
theorem spec_l01Times.all : ∀ k : Nat, k ≤ 4 → ∀ (x y : Int) (w : World), 0 ≤ x → x < ((2 ^ 2 ^ k : Nat) : Int) → 0 ≤ y → y < ((2 ^ 2 ^ k : Nat) : Int) → Calls Try.prog 89 #[.int .u16 x, .int .u16 y] w fun e w' => e = .returned (.int .u16 (Nim.nmI k x y)) ∧ w' = w
  | 0, _, x, y, w, h1, h2, h3, h4 => spec_l01Times.small 0 x y w h1 h3 (by simp at h2; omega) (by simp at h4; omega) (.inl (by simpa using h2))
  | 1, _, x, y, w, h1, h2, h3, h4 => by
    have h2' : x < 4 := h2
    have h4' : y < 4 := h4
    by_cases hs : x < 2 ∨ y < 2
    · exact spec_l01Times.small 1 x y w h1 h3 (by omega) (by omega) hs
    · by_cases hb : 2 ≤ x ∨ 2 ≤ y
      · exact spec_l01Times.step0 x y w (by omega) (by omega) h2' h4' hb (fun x y w a b c d => spec_l01Times.all 0 (by decide) x y w a b c d)
      · rw [Nim.nmI_lift (i := 0) (k := 1) (by decide) 2 (by decide) x y h1 (by omega) h3 (by omega)]
        exact spec_l01Times.all 0 (by decide) x y w h1 (show x < 2 by omega) h3 (show y < 2 by omega)
  | 2, _, x, y, w, h1, h2, h3, h4 => by
    have h2' : x < 16 := h2
    have h4' : y < 16 := h4
    by_cases hs : x < 2 ∨ y < 2
    · exact spec_l01Times.small 2 x y w h1 h3 (by omega) (by omega) hs
    · by_cases hb : 4 ≤ x ∨ 4 ≤ y
      · exact spec_l01Times.step1 x y w (by omega) (by omega) h2' h4' hb (fun x y w a b c d => spec_l01Times.all 1 (by decide) x y w a b c d)
      · rw [Nim.nmI_lift (i := 1) (k := 2) (by decide) 4 (by decide) x y h1 (by omega) h3 (by omega)]
        exact spec_l01Times.all 1 (by decide) x y w h1 (show x < 4 by omega) h3 (show y < 4 by omega)
  | 3, _, x, y, w, h1, h2, h3, h4 => by
    have h2' : x < 256 := h2
    have h4' : y < 256 := h4
    by_cases hs : x < 2 ∨ y < 2
    · exact spec_l01Times.small 3 x y w h1 h3 (by omega) (by omega) hs
    · by_cases hb : 16 ≤ x ∨ 16 ≤ y
      · exact spec_l01Times.step2 x y w (by omega) (by omega) h2' h4' hb (fun x y w a b c d => spec_l01Times.all 2 (by decide) x y w a b c d)
      · rw [Nim.nmI_lift (i := 2) (k := 3) (by decide) 16 (by decide) x y h1 (by omega) h3 (by omega)]
        exact spec_l01Times.all 2 (by decide) x y w h1 (show x < 16 by omega) h3 (show y < 16 by omega)
  | 4, _, x, y, w, h1, h2, h3, h4 => by
    have h2' : x < 65536 := h2
    have h4' : y < 65536 := h4
    by_cases hs : x < 2 ∨ y < 2
    · exact spec_l01Times.small 4 x y w h1 h3 (by omega) (by omega) hs
    · by_cases hb : 256 ≤ x ∨ 256 ≤ y
      · exact spec_l01Times.step3 x y w (by omega) (by omega) h2' h4' hb (fun x y w a b c d => spec_l01Times.all 3 (by decide) x y w a b c d)
      · rw [Nim.nmI_lift (i := 3) (k := 4) (by decide) 256 (by decide) x y h1 (by omega) h3 (by omega)]
        exact spec_l01Times.all 3 (by decide) x y w h1 (show x < 256 by omega) h3 (show y < 256 by omega)
  | k + 5, h, _, _, _, _, _, _, _ => absurd h (by omega)
theorem spec_l01Times.calls (a0 : Int) (a1 : Int) (r : Int) (w : World) (h : spec_l01Times.f a0 a1 = some r) :
    Calls Try.prog 89 #[.int .u16 a0, .int .u16 a1] w fun e w' => e = .returned (.int .u16 r) ∧ Drawn0 w w' := by
  unfold spec_l01Times.f at h
  split at h
  · rename_i hb
    obtain rfl := Option.some.inj h
    refine (spec_l01Times.all 4 (by decide) a0 a1 w hb.1 (show a0 < 65536 by omega) hb.2.2.1 (show a1 < 65536 by omega)).mono ?_
    rintro e w' ⟨rfl, rfl⟩
    exact ⟨rfl, Drawn0.refl _⟩
  · cases h
end Go.Proofs.Yteanndgkjoinmaa.X

-- Laid by wip/xprint.py of this session (the kit's print program, with some contracts given by hand). Not trusted: Lean checks it.
namespace Go.Proofs.Yteanndgkjoinmaa.X
open Go.RowKit Go.Proofs.YteanndgkjoinmaaW.PrintWords Go.Proofs.YteanndgkjoinmaaW.PrintLast Go.Proofs.YteanndgkjoinmaaW.PrintMore
attribute [local go_sem] max2_int min2_int max_two min_two max_three min_three max_four min_four
set_option linter.unusedVariables false
set_option linter.unusedSimpArgs false
def spec_l07Values.l0 : Nat → Int → List Bool → Int → Int → List (S68) → List Int → Option (List Bool)
  | 0, _, _, _, _, _, _ => none
  | k + 1, x1, x5, x6, x1000, x1001, x1002 => if x6 < (x1001.length : Int) then (if 0 ≤ x6 then (if ((rd_T68 x1001 x6).f0) = 0 then (if 0 ≤ (IntKind.u64.wrap ((rd_T68 x1001 x6).f1)) then (if x5.length < 140737488355328 then (spec_l07Values.l0 k x1 (x5 ++ [((Int.tmod (shr .u16 x1 (IntKind.u64.wrap ((rd_T68 x1001 x6).f1))) 2) == 1)]) (wrap64 (x6 + 1)) x1000 x1001 x1002) else (none)) else (none)) else (if ((rd_T68 x1001 x6).f0) = 2 then (if 0 ≤ ((rd_T68 x1001 x6).f1) then (if ((rd_T68 x1001 x6).f1) < (x5.length : Int) then (if 0 ≤ ((rd_T68 x1001 x6).f2) then (if ((rd_T68 x1001 x6).f2) < (x5.length : Int) then (if x5.length < 140737488355328 then (spec_l07Values.l0 k x1 (x5 ++ [((rdOf false x5 ((rd_T68 x1001 x6).f1)) != (rdOf false x5 ((rd_T68 x1001 x6).f2)))]) (wrap64 (x6 + 1)) x1000 x1001 x1002) else (none)) else (none)) else (none)) else (none)) else (none)) else (if ((rd_T68 x1001 x6).f0) = 3 then (if 0 ≤ ((rd_T68 x1001 x6).f1) then (if ((rd_T68 x1001 x6).f1) < (x5.length : Int) then (if rdOf false x5 ((rd_T68 x1001 x6).f1) = true then (if 0 ≤ ((rd_T68 x1001 x6).f2) then (if ((rd_T68 x1001 x6).f2) < (x5.length : Int) then (if x5.length < 140737488355328 then (spec_l07Values.l0 k x1 (x5 ++ [rdOf false x5 ((rd_T68 x1001 x6).f2)]) (wrap64 (x6 + 1)) x1000 x1001 x1002) else (none)) else (none)) else (none)) else (if x5.length < 140737488355328 then (spec_l07Values.l0 k x1 (x5 ++ [false]) (wrap64 (x6 + 1)) x1000 x1001 x1002) else (none))) else (none)) else (none)) else (if x5.length < 140737488355328 then (spec_l07Values.l0 k x1 (x5 ++ [true]) (wrap64 (x6 + 1)) x1000 x1001 x1002) else (none))))) else (none)) else (some x5)
def spec_l07Values.f (k : Nat) (a0_0 : Int) (l0_1 : List (S68)) (l0_2 : List Int) (a1 : Int) : Option (List Bool) := spec_l07Values.l0 k a1 (([] : List Bool)) 0 a0_0 l0_1 l0_2
set_option maxHeartbeats 8000000 in
set_option maxRecDepth 100000 in
theorem spec_l07Values.calls (k : Nat) (gro0 : Nat) (a0_0 : Int) (A0_1 : Option Addr) (c0_1 : Nat) (l0_1 : List (S68)) (A0_2 : Option Addr) (c0_2 : Nat) (l0_2 : List Int) (a1 : Int) (r : List Bool) (w : World) (hbk0 : w.heap[gro0]? = some (.cells #[.int .i8 a0_0, .slice A0_1 l0_1.length c0_1, .slice A0_2 l0_2.length c0_2] 30 (0, 0))) (hr0_1 : Kd.C k68 w A0_1 l0_1.length l0_1) (hc0_1 : l0_1.length ≤ c0_1) (hr0_2 : Kd.C (Kd.int .i16) w A0_2 l0_2.length l0_2) (hc0_2 : l0_2.length ≤ c0_2) (h : spec_l07Values.f k a0_0 l0_1 l0_2 a1 = some r) :
    Calls Try.prog 101 #[.pointer (some ⟨gro0, 0, none⟩), .int .u16 a1] w fun e w' => ∃ v0_ : Value, e = .returned (v0_) ∧ Kd.R Kd.bool 4 w' w.heap.size (fun _ => True) v0_ r ∧ Below w.heap.size w w' := by
  have hu68 := Try.underlying68
  have HR0_1 := Aside0.mk hr0_1
  have HC0_1 := Aside0.mk hc0_1
  clear hr0_1 hc0_1
  have HR0_2 := Aside0.mk hr0_2
  have HC0_2 := Aside0.mk hc0_2
  clear hr0_2 hc0_2
  have BK0 := Aside0.mk hbk0
  clear hbk0
  have HB := Aside0.mk (Below.refl w.heap.size w)
  have H : (spec_l07Values.l0 k a1 (([] : List Bool)) 0 a0_0 l0_1 l0_2) = some r := h
  clear h
  obtain ⟨y101, hy101⟩ : ∃ y_ : List Bool, y_ = (([] : List Bool)) := ⟨_, rfl⟩
  replace H : (spec_l07Values.l0 k a1 y101 0 a0_0 l0_1 l0_2) = some r := by first | (rw [hy101]; with_reducible exact H) | (have H2_ := (Option.bind_some _ _).symm.trans H; rw [hy101]; with_reducible exact H2_) | (have H2_ := (Option.bind_some _ _).symm.trans H; with_reducible exact H2_) | with_reducible exact H | (rw [hy101]; exact H) | exact H
  have Ny101 := Aside0.mk hy101
  clear hy101
  have H' := Aside0.mk H
  clear H
  go_enter Try.func101, Try.ntmps101
  go_wp2_with (first | ((with_reducible refine gate_dst (N := 9) rfl ?_); refine Kd.R_lit Kd.bool _ 4 ?hg (N := 9) ?hd (xs := ([] : List Bool)) (inner := []) (ok := fun _ => True) (okp := fun _ => True) ?hr ?hp (fun _ hk => hk) trivial (Below.refl _ _) (Nat.le_refl _) (by simp) ?_; (case hd => rfl); (case hg => rfl); (case hr => first | (go_simp; done) | (go_simp; rfl)); (case hp => exact (Reps.none _ _)); intro v102 w3 ho4 hb hg_ hnew_; clear hg_ hnew_; (first | rw [← Ny101.out] at ho4 | (simp only [Int.reduceToNat] at ho4; rw [← Ny101.out] at ho4)); have n0_ := Aside0.mk (Kd.R_lower ho4 (below_size (by repeat (first | (with_reducible first | exact HB.out | apply below_alloc | apply pw_below_drewN | apply below_drew1 | refine below_set ?_ GE0.out) | exact HB.out)))); have n1_ := Aside0.mk (blk_below (g := gro0) (o := .cells #[.int .i8 a0_0, .slice A0_1 l0_1.length c0_1, .slice A0_2 l0_2.length c0_2] 30 (0, 0)) (by (with_reducible repeat (first | refine blk_drewN ?_ _ | refine blk_drew ?_ | refine blk_alloc ?_ _)); exact BK0.out) hb); have n2_ := Aside0.mk (below_step (by repeat (first | (with_reducible first | exact HB.out | apply below_alloc | apply pw_below_drewN | apply below_drew1 | refine below_set ?_ GE0.out) | exact HB.out)) hb); clear BK0; clear HB; have HO103 := n0_; have BK0 := n1_; have HB := n2_; clear n0_ n1_ n2_; clear hb ho4))
  repeat (go_quiet (first | ((with_reducible refine gate_dst (N := 9) rfl ?_); refine Kd.R_lit Kd.bool _ 4 ?hg (N := 9) ?hd (xs := ([] : List Bool)) (inner := []) (ok := fun _ => True) (okp := fun _ => True) ?hr ?hp (fun _ hk => hk) trivial (Below.refl _ _) (Nat.le_refl _) (by simp) ?_; (case hd => rfl); (case hg => rfl); (case hr => first | (go_simp; done) | (go_simp; rfl)); (case hp => exact (Reps.none _ _)); intro v102 w3 ho4 hb hg_ hnew_; clear hg_ hnew_; (first | rw [← Ny101.out] at ho4 | (simp only [Int.reduceToNat] at ho4; rw [← Ny101.out] at ho4)); have n0_ := Aside0.mk (Kd.R_lower ho4 (below_size (by repeat (first | (with_reducible first | exact HB.out | apply below_alloc | apply pw_below_drewN | apply below_drew1 | refine below_set ?_ GE0.out) | exact HB.out)))); have n1_ := Aside0.mk (blk_below (g := gro0) (o := .cells #[.int .i8 a0_0, .slice A0_1 l0_1.length c0_1, .slice A0_2 l0_2.length c0_2] 30 (0, 0)) (by (with_reducible repeat (first | refine blk_drewN ?_ _ | refine blk_drew ?_ | refine blk_alloc ?_ _)); exact BK0.out) hb); have n2_ := Aside0.mk (below_step (by repeat (first | (with_reducible first | exact HB.out | apply below_alloc | apply pw_below_drewN | apply below_drew1 | refine below_set ?_ GE0.out) | exact HB.out)) hb); clear BK0; clear HB; have HO103 := n0_; have BK0 := n1_; have HB := n2_; clear n0_ n1_ n2_; clear hb ho4)); try go_wp2_with (first | ((with_reducible refine gate_dst (N := 9) rfl ?_); refine Kd.R_lit Kd.bool _ 4 ?hg (N := 9) ?hd (xs := ([] : List Bool)) (inner := []) (ok := fun _ => True) (okp := fun _ => True) ?hr ?hp (fun _ hk => hk) trivial (Below.refl _ _) (Nat.le_refl _) (by simp) ?_; (case hd => rfl); (case hg => rfl); (case hr => first | (go_simp; done) | (go_simp; rfl)); (case hp => exact (Reps.none _ _)); intro v102 w3 ho4 hb hg_ hnew_; clear hg_ hnew_; (first | rw [← Ny101.out] at ho4 | (simp only [Int.reduceToNat] at ho4; rw [← Ny101.out] at ho4)); have n0_ := Aside0.mk (Kd.R_lower ho4 (below_size (by repeat (first | (with_reducible first | exact HB.out | apply below_alloc | apply pw_below_drewN | apply below_drew1 | refine below_set ?_ GE0.out) | exact HB.out)))); have n1_ := Aside0.mk (blk_below (g := gro0) (o := .cells #[.int .i8 a0_0, .slice A0_1 l0_1.length c0_1, .slice A0_2 l0_2.length c0_2] 30 (0, 0)) (by (with_reducible repeat (first | refine blk_drewN ?_ _ | refine blk_drew ?_ | refine blk_alloc ?_ _)); exact BK0.out) hb); have n2_ := Aside0.mk (below_step (by repeat (first | (with_reducible first | exact HB.out | apply below_alloc | apply pw_below_drewN | apply below_drew1 | refine below_set ?_ GE0.out) | exact HB.out)) hb); clear BK0; clear HB; have HO103 := n0_; have BK0 := n1_; have HB := n2_; clear n0_ n1_ n2_; clear hb ho4)))
  go_loopg [5, 6] k (fun kq v5 v6 w' => ∃ (x5_1 : List Bool) (x6_1 : Int), v6 = .int .i64 x6_1 ∧ Aside0 (spec_l07Values.l0 kq a1 x5_1 x6_1 a0_0 l0_1 l0_2 = some r) ∧ Aside0 (kq ≤ k) ∧ Aside0 (Kd.R Kd.bool 4 w' w.heap.size (fun _ => True) v5 x5_1) ∧ Aside0 (w'.heap[gro0]? = some (.cells #[.int .i8 a0_0, (.slice A0_1 l0_1.length c0_1), (.slice A0_2 l0_2.length c0_2)] 30 (0, 0))) ∧ Aside0 (Below w.heap.size w w'))
  case atStart => exact ⟨(y101), (0), (by first | rfl | (simp; done) | (simp [*]; done)), H', ⟨Nat.le_refl _⟩, ⟨by (with_reducible repeat (first | apply Kd.R_alloc | apply Kd.R_drewN | apply Kd.R_drew)); exact HO103.out⟩, ⟨by (with_reducible repeat (first | refine blk_drewN ?_ _ | refine blk_drew ?_ | refine blk_alloc ?_ _)); exact BK0.out⟩, ⟨by repeat (first | (with_reducible first | exact HB.out | apply below_alloc | apply pw_below_drewN | apply below_drew1 | refine below_set ?_ GE0.out) | exact HB.out)⟩⟩
  case round =>
    clear H'
    try clear c1
    try clear p2
    obtain ⟨x5_1, x6_1, rfl, HA, HK1, HO_5, BK0, HB⟩ := hrel
    cases gk with
    | zero => exact absurd HA.out (by simp [spec_l07Values.l0])
    | succ k1 =>
      have H := HA.out
      clear HA
      simp only [spec_l07Values.l0] at H
      by_cases c5 : x6_1 < (l0_1.length : Int)
      · rw [if_pos c5] at H
        have c5b0 : decide (x6_1 < (l0_1.length : Int)) = true := decide_eq_true c5
        clear c5
        by_cases c6 : 0 ≤ x6_1
        · rw [if_pos c6] at H
          have c6b0 : decide (0 ≤ x6_1) = true := decide_eq_true c6
          clear c6
          by_cases c7 : ((rd_T68 l0_1 x6_1).f0) = 0
          · rw [if_pos c7] at H
            have c7b0 : (((rd_T68 l0_1 x6_1).f0) == 0) = true := beq_iff_eq.mpr c7
            have c7b1 : (((rd_T68 l0_1 x6_1).f0) != 0) = false := bne_eq_false_iff_eq.mpr c7
            clear c7
            obtain ⟨ji8, hji8⟩ : ∃ j_ : Int, (IntKind.u64.wrap ((rd_T68 l0_1 x6_1).f1)) = j_ := ⟨_, rfl⟩
            replace H : (if 0 ≤ (ji8) then (if x5_1.length < 140737488355328 then (spec_l07Values.l0 k1 a1 (x5_1 ++ [((Int.tmod (shr .u16 a1 (ji8)) 2) == 1)]) (wrap64 (x6_1 + 1)) a0_0 l0_1 l0_2) else (none)) else (none)) = some r := by first | (rw [hji8] at H; exact H) | (simp only [hji8] at H ⊢; exact H)
            by_cases c9 : 0 ≤ (ji8)
            · rw [if_pos c9] at H
              have c9b0 := eq_true c9
              have c9b1 : decide (0 ≤ (ji8)) = true := decide_eq_true c9
              clear c9
              obtain ⟨ji10, hji10⟩ : ∃ j_ : Int, (shr .u16 a1 (ji8)) = j_ := ⟨_, rfl⟩
              replace H : (if x5_1.length < 140737488355328 then (spec_l07Values.l0 k1 a1 (x5_1 ++ [((Int.tmod (ji10) 2) == 1)]) (wrap64 (x6_1 + 1)) a0_0 l0_1 l0_2) else (none)) = some r := by first | (rw [hji10] at H; exact H) | (simp only [hji10] at H ⊢; exact H)
              have hji10_ : (a1 / 2 ^ min (ji8).toNat 16) = ji10 := hji10
              have hji10z : (ji8) ≤ 16 → (a1 / 2 ^ (ji8).toNat) = ji10 := shr_small hji10
              by_cases c11 : x5_1.length < 140737488355328
              · rw [if_pos c11] at H
                have LMc11 := Aside0.mk c11
                clear c11
                obtain ⟨y106, hy106⟩ : ∃ y_ : List Bool, y_ = (x5_1 ++ [((Int.tmod (ji10) 2) == 1)]) := ⟨_, rfl⟩
                replace H : (spec_l07Values.l0 k1 a1 y106 (wrap64 (x6_1 + 1)) a0_0 l0_1 l0_2) = some r := by first | (rw [hy106]; with_reducible exact H) | (have H2_ := (Option.bind_some _ _).symm.trans H; rw [hy106]; with_reducible exact H2_) | (have H2_ := (Option.bind_some _ _).symm.trans H; with_reducible exact H2_) | with_reducible exact H | (rw [hy106]; exact H) | exact H
                have Ny106 := Aside0.mk hy106
                clear hy106
                have H' := Aside0.mk H
                clear H
                have hcz12_0 : wr.cell? ⟨gro0, 0, none⟩ = some (.int .i8 a0_0) := (blk_cell BK0.out 0).trans rfl
                have hcz12_1 : wr.cell? ⟨gro0, 1, none⟩ = some (.slice A0_1 l0_1.length c0_1) := (blk_cell BK0.out 1).trans rfl
                have hcz12_2 : wr.cell? ⟨gro0, 2, none⟩ = some (.slice A0_2 l0_2.length c0_2) := (blk_cell BK0.out 2).trans rfl
                have hfz12_0 := blk_frozen BK0.out 0
                have hfz12_1 := blk_frozen BK0.out 1
                have hfz12_2 := blk_frozen BK0.out 2
                have p104 : 0 ≤ (x6_1 : Int) := of_decide_eq_true (by first | (with_reducible assumption) | assumption)
                have q104 : x6_1 < (l0_1.length : Int) := of_decide_eq_true (by first | (with_reducible assumption) | assumption)
                obtain ⟨ad104, e104, hx104_0, hx104_1, hx104_2⟩ := at_T68 HR0_1.out x6_1 p104 q104
                cases e104
                replace hx104_0 := (HB.out.cell (World.block_lt_of_cell? w _ hx104_0)).trans hx104_0
                replace hx104_1 := (HB.out.cell (World.block_lt_of_cell? w _ hx104_1)).trans hx104_1
                replace hx104_2 := (HB.out.cell (World.block_lt_of_cell? w _ hx104_2)).trans hx104_2
                replace p104 := eq_true p104
                replace q104 := eq_true q104
                go_wp2_with (first | ((with_reducible refine gate_dst (N := 7) rfl ?_); refine box_event ?hg (N := 7) ?hd (cs := #[.int .i8 0, .int .i16 0, .int .i16 0]) (t := 68) ?hr ?_; (case hd => rfl); (case hg => rfl); (case hr => first | (go_simp; done) | (go_simp; rfl)); intro gb105 hg w13 hbox hb; have n0_ := Aside0.mk (Kd.R_below (by (with_reducible repeat (first | apply Kd.R_alloc | apply Kd.R_drewN | apply Kd.R_drew)); exact HO_5.out) hb); have n1_ := Aside0.mk (blk_below (g := gro0) (o := .cells #[.int .i8 a0_0, .slice (some ad104) l0_1.length c0_1, .slice A0_2 l0_2.length c0_2] 30 (0, 0)) (by (with_reducible repeat (first | refine blk_drewN ?_ _ | refine blk_drew ?_ | refine blk_alloc ?_ _)); exact BK0.out) hb); have n2_ := Aside0.mk (below_step (by repeat (first | (with_reducible first | exact HB.out | apply below_alloc | apply pw_below_drewN | apply below_drew1 | refine below_set ?_ GE0.out) | exact HB.out)) hb); have n3_ := Aside0.mk (hbox); have n4_ := Aside0.mk ((by rw [hg]; exact (below_size (by repeat (first | (with_reducible first | exact HB.out | apply below_alloc | apply pw_below_drewN | apply below_drew1 | refine below_set ?_ GE0.out) | exact HB.out))) : w.heap.size ≤ gb105)); have n5_ := Aside0.mk ((by rw [hg]; exact (below_size (by repeat (first | (with_reducible first | exact HB.out | apply below_alloc | apply pw_below_drewN | apply below_drew1 | refine below_set ?_ GE0.out) | exact HB.out))) : w.heap.size ≤ gb105)); have n6_ := Aside0.mk ((by rw [hg]; exact Nat.ne_of_lt (blk_lt (g := gro0) (o := .cells #[.int .i8 a0_0, .slice (some ad104) l0_1.length c0_1, .slice A0_2 l0_2.length c0_2] 30 (0, 0)) (by (with_reducible repeat (first | refine blk_drewN ?_ _ | refine blk_drew ?_ | refine blk_alloc ?_ _)); exact BK0.out)) : gro0 ≠ gb105)); have n7_ := Aside0.mk ((by rw [hg]; exact Nat.ne_of_gt (blk_lt (g := gro0) (o := .cells #[.int .i8 a0_0, .slice (some ad104) l0_1.length c0_1, .slice A0_2 l0_2.length c0_2] 30 (0, 0)) (by (with_reducible repeat (first | refine blk_drewN ?_ _ | refine blk_drew ?_ | refine blk_alloc ?_ _)); exact BK0.out)) : gb105 ≠ gro0)); clear HO_5; clear BK0; clear HB; have HO_5 := n0_; have BK0 := n1_; have HB := n2_; have BK105 := n3_; have GW105 := n4_; have GE105 := n5_; have NB0_105 := n6_; have NB105_0 := n7_; clear n0_ n1_ n2_ n3_ n4_ n5_ n6_ n7_; clear hb hbox hg; have hnb14 := NB105_0.out; have hnc14 := NB0_105.out; have hcz15_0 : w13.cell? ⟨gb105, 0, none⟩ = some (.int .i8 0) := (blk_cell BK105.out 0).trans rfl; have hcz15_1 : w13.cell? ⟨gb105, 1, none⟩ = some (.int .i16 0) := (blk_cell BK105.out 1).trans rfl; have hcz15_2 : w13.cell? ⟨gb105, 2, none⟩ = some (.int .i16 0) := (blk_cell BK105.out 2).trans rfl; have hfz15_0 := blk_frozen BK105.out 0; have hfz15_1 := blk_frozen BK105.out 1; have hfz15_2 := blk_frozen BK105.out 2) | ((with_reducible refine gate_builtin (b := .append) (xs := #[.tmp 64, .tmp 66]) rfl ?_); at_builtin; refine Kd.R_append Kd.bool (w0 := w) w.heap.size rfl (.tmp 64) (.tmp 66) 81 4 (.bool false) 1 rfl Try.underlying81 info4 rfl (by decide) (by omega) u5 x5_1 ((Int.tmod (ji10) 2) == 1) [.bool ((Int.tmod (ji10) 2) == 1)] (fun _ => True) (fun _ => False) rfl (by first | (go_simp; done) | (go_simp; rfl)) ?aP (fun _ hk => hk.elim) ?aF ?aO ?aB ?aS ?aL ?_; (case aP => exact rfl); (case aB => exact (by repeat (first | (with_reducible first | exact HB.out | apply below_alloc | apply pw_below_drewN | apply below_drew1 | refine below_set ?_ GE0.out | refine below_set ?_ GE105.out) | exact HB.out))); (case aF => exact (fun _ _ => trivial)); (case aO => exact (by (with_reducible repeat (first | apply Kd.R_alloc | apply Kd.R_drewN | apply Kd.R_drew)); exact Kd.R_mono (Kd.R_far (p := ⟨gb105, 2, none⟩) (Kd.R_far (p := ⟨gb105, 1, none⟩) (Kd.R_far (p := ⟨gb105, 0, none⟩) (Kd.R_types HO_5.out BK105.out (by decide)) (fun _ hk => hk.2) (.int .i8 ((rd_T68 l0_1 x6_1).f0))) (fun _ hk => hk.2) (.int .i16 ((rd_T68 l0_1 x6_1).f1))) (fun _ hk => hk.2) (.int .i16 ((rd_T68 l0_1 x6_1).f2))) (fun _ hk => trivial))); (case aS => exact (below_size (by repeat (first | (with_reducible first | exact HB.out | apply below_alloc | apply pw_below_drewN | apply below_drew1 | refine below_set ?_ GE0.out | refine below_set ?_ GE105.out) | exact HB.out)))); (case aL => have := LMc11.out; omega); intro v107 w16 ho hb hg hat; rw [← Ny106.out] at ho; have n0_ := Aside0.mk (blk_grown (g := gro0) (o := .cells #[.int .i8 a0_0, .slice (some ad104) l0_1.length c0_1, .slice A0_2 l0_2.length c0_2] 30 (0, 0)) (by (with_reducible repeat (first | refine blk_drewN ?_ _ | refine blk_drew ?_ | refine blk_alloc ?_ _)); refine blk_far ?_ NB0_105.out _; (with_reducible repeat (first | refine blk_drewN ?_ _ | refine blk_drew ?_ | refine blk_alloc ?_ _)); refine blk_far ?_ NB0_105.out _; (with_reducible repeat (first | refine blk_drewN ?_ _ | refine blk_drew ?_ | refine blk_alloc ?_ _)); refine blk_far ?_ NB0_105.out _; (with_reducible repeat (first | refine blk_drewN ?_ _ | refine blk_drew ?_ | refine blk_alloc ?_ _)); exact BK0.out) hg (Kd.R_ne HO_5.out BK0.out (by decide))); have n1_ := Aside0.mk (blk_grown (g := gb105) (o := .cells #[.int .i8 ((rd_T68 l0_1 x6_1).f0), .int .i16 ((rd_T68 l0_1 x6_1).f1), .int .i16 ((rd_T68 l0_1 x6_1).f2)] 68 (0, 0)) (by (with_reducible repeat (first | refine blk_drewN ?_ _ | refine blk_drew ?_ | refine blk_alloc ?_ _)); refine blk_put (cs := #[.int .i8 ((rd_T68 l0_1 x6_1).f0), .int .i16 ((rd_T68 l0_1 x6_1).f1), .int .i16 0]) ?_ 2 _ rfl; (with_reducible repeat (first | refine blk_drewN ?_ _ | refine blk_drew ?_ | refine blk_alloc ?_ _)); refine blk_put (cs := #[.int .i8 ((rd_T68 l0_1 x6_1).f0), .int .i16 0, .int .i16 0]) ?_ 1 _ rfl; (with_reducible repeat (first | refine blk_drewN ?_ _ | refine blk_drew ?_ | refine blk_alloc ?_ _)); refine blk_put (cs := #[.int .i8 0, .int .i16 0, .int .i16 0]) ?_ 0 _ rfl; (with_reducible repeat (first | refine blk_drewN ?_ _ | refine blk_drew ?_ | refine blk_alloc ?_ _)); exact BK105.out) hg (Kd.R_ne HO_5.out BK105.out (by decide))); have n2_ := Aside0.mk (hb); have n3_ := Aside0.mk (ho); clear BK0; clear BK105; clear HB; clear HO_5; have BK0 := n0_; have BK105 := n1_; have HB := n2_; have HO108 := n3_; clear n0_ n1_ n2_ n3_; clear ho hb hg hat))
                repeat (go_quiet (first | ((with_reducible refine gate_dst (N := 7) rfl ?_); refine box_event ?hg (N := 7) ?hd (cs := #[.int .i8 0, .int .i16 0, .int .i16 0]) (t := 68) ?hr ?_; (case hd => rfl); (case hg => rfl); (case hr => first | (go_simp; done) | (go_simp; rfl)); intro gb105 hg w13 hbox hb; have n0_ := Aside0.mk (Kd.R_below (by (with_reducible repeat (first | apply Kd.R_alloc | apply Kd.R_drewN | apply Kd.R_drew)); exact HO_5.out) hb); have n1_ := Aside0.mk (blk_below (g := gro0) (o := .cells #[.int .i8 a0_0, .slice (some ad104) l0_1.length c0_1, .slice A0_2 l0_2.length c0_2] 30 (0, 0)) (by (with_reducible repeat (first | refine blk_drewN ?_ _ | refine blk_drew ?_ | refine blk_alloc ?_ _)); exact BK0.out) hb); have n2_ := Aside0.mk (below_step (by repeat (first | (with_reducible first | exact HB.out | apply below_alloc | apply pw_below_drewN | apply below_drew1 | refine below_set ?_ GE0.out) | exact HB.out)) hb); have n3_ := Aside0.mk (hbox); have n4_ := Aside0.mk ((by rw [hg]; exact (below_size (by repeat (first | (with_reducible first | exact HB.out | apply below_alloc | apply pw_below_drewN | apply below_drew1 | refine below_set ?_ GE0.out) | exact HB.out))) : w.heap.size ≤ gb105)); have n5_ := Aside0.mk ((by rw [hg]; exact (below_size (by repeat (first | (with_reducible first | exact HB.out | apply below_alloc | apply pw_below_drewN | apply below_drew1 | refine below_set ?_ GE0.out) | exact HB.out))) : w.heap.size ≤ gb105)); have n6_ := Aside0.mk ((by rw [hg]; exact Nat.ne_of_lt (blk_lt (g := gro0) (o := .cells #[.int .i8 a0_0, .slice (some ad104) l0_1.length c0_1, .slice A0_2 l0_2.length c0_2] 30 (0, 0)) (by (with_reducible repeat (first | refine blk_drewN ?_ _ | refine blk_drew ?_ | refine blk_alloc ?_ _)); exact BK0.out)) : gro0 ≠ gb105)); have n7_ := Aside0.mk ((by rw [hg]; exact Nat.ne_of_gt (blk_lt (g := gro0) (o := .cells #[.int .i8 a0_0, .slice (some ad104) l0_1.length c0_1, .slice A0_2 l0_2.length c0_2] 30 (0, 0)) (by (with_reducible repeat (first | refine blk_drewN ?_ _ | refine blk_drew ?_ | refine blk_alloc ?_ _)); exact BK0.out)) : gb105 ≠ gro0)); clear HO_5; clear BK0; clear HB; have HO_5 := n0_; have BK0 := n1_; have HB := n2_; have BK105 := n3_; have GW105 := n4_; have GE105 := n5_; have NB0_105 := n6_; have NB105_0 := n7_; clear n0_ n1_ n2_ n3_ n4_ n5_ n6_ n7_; clear hb hbox hg; have hnb14 := NB105_0.out; have hnc14 := NB0_105.out; have hcz15_0 : w13.cell? ⟨gb105, 0, none⟩ = some (.int .i8 0) := (blk_cell BK105.out 0).trans rfl; have hcz15_1 : w13.cell? ⟨gb105, 1, none⟩ = some (.int .i16 0) := (blk_cell BK105.out 1).trans rfl; have hcz15_2 : w13.cell? ⟨gb105, 2, none⟩ = some (.int .i16 0) := (blk_cell BK105.out 2).trans rfl; have hfz15_0 := blk_frozen BK105.out 0; have hfz15_1 := blk_frozen BK105.out 1; have hfz15_2 := blk_frozen BK105.out 2) | ((with_reducible refine gate_builtin (b := .append) (xs := #[.tmp 64, .tmp 66]) rfl ?_); at_builtin; refine Kd.R_append Kd.bool (w0 := w) w.heap.size rfl (.tmp 64) (.tmp 66) 81 4 (.bool false) 1 rfl Try.underlying81 info4 rfl (by decide) (by omega) u5 x5_1 ((Int.tmod (ji10) 2) == 1) [.bool ((Int.tmod (ji10) 2) == 1)] (fun _ => True) (fun _ => False) rfl (by first | (go_simp; done) | (go_simp; rfl)) ?aP (fun _ hk => hk.elim) ?aF ?aO ?aB ?aS ?aL ?_; (case aP => exact rfl); (case aB => exact (by repeat (first | (with_reducible first | exact HB.out | apply below_alloc | apply pw_below_drewN | apply below_drew1 | refine below_set ?_ GE0.out | refine below_set ?_ GE105.out) | exact HB.out))); (case aF => exact (fun _ _ => trivial)); (case aO => exact (by (with_reducible repeat (first | apply Kd.R_alloc | apply Kd.R_drewN | apply Kd.R_drew)); exact Kd.R_mono (Kd.R_far (p := ⟨gb105, 2, none⟩) (Kd.R_far (p := ⟨gb105, 1, none⟩) (Kd.R_far (p := ⟨gb105, 0, none⟩) (Kd.R_types HO_5.out BK105.out (by decide)) (fun _ hk => hk.2) (.int .i8 ((rd_T68 l0_1 x6_1).f0))) (fun _ hk => hk.2) (.int .i16 ((rd_T68 l0_1 x6_1).f1))) (fun _ hk => hk.2) (.int .i16 ((rd_T68 l0_1 x6_1).f2))) (fun _ hk => trivial))); (case aS => exact (below_size (by repeat (first | (with_reducible first | exact HB.out | apply below_alloc | apply pw_below_drewN | apply below_drew1 | refine below_set ?_ GE0.out | refine below_set ?_ GE105.out) | exact HB.out)))); (case aL => have := LMc11.out; omega); intro v107 w16 ho hb hg hat; rw [← Ny106.out] at ho; have n0_ := Aside0.mk (blk_grown (g := gro0) (o := .cells #[.int .i8 a0_0, .slice (some ad104) l0_1.length c0_1, .slice A0_2 l0_2.length c0_2] 30 (0, 0)) (by (with_reducible repeat (first | refine blk_drewN ?_ _ | refine blk_drew ?_ | refine blk_alloc ?_ _)); refine blk_far ?_ NB0_105.out _; (with_reducible repeat (first | refine blk_drewN ?_ _ | refine blk_drew ?_ | refine blk_alloc ?_ _)); refine blk_far ?_ NB0_105.out _; (with_reducible repeat (first | refine blk_drewN ?_ _ | refine blk_drew ?_ | refine blk_alloc ?_ _)); refine blk_far ?_ NB0_105.out _; (with_reducible repeat (first | refine blk_drewN ?_ _ | refine blk_drew ?_ | refine blk_alloc ?_ _)); exact BK0.out) hg (Kd.R_ne HO_5.out BK0.out (by decide))); have n1_ := Aside0.mk (blk_grown (g := gb105) (o := .cells #[.int .i8 ((rd_T68 l0_1 x6_1).f0), .int .i16 ((rd_T68 l0_1 x6_1).f1), .int .i16 ((rd_T68 l0_1 x6_1).f2)] 68 (0, 0)) (by (with_reducible repeat (first | refine blk_drewN ?_ _ | refine blk_drew ?_ | refine blk_alloc ?_ _)); refine blk_put (cs := #[.int .i8 ((rd_T68 l0_1 x6_1).f0), .int .i16 ((rd_T68 l0_1 x6_1).f1), .int .i16 0]) ?_ 2 _ rfl; (with_reducible repeat (first | refine blk_drewN ?_ _ | refine blk_drew ?_ | refine blk_alloc ?_ _)); refine blk_put (cs := #[.int .i8 ((rd_T68 l0_1 x6_1).f0), .int .i16 0, .int .i16 0]) ?_ 1 _ rfl; (with_reducible repeat (first | refine blk_drewN ?_ _ | refine blk_drew ?_ | refine blk_alloc ?_ _)); refine blk_put (cs := #[.int .i8 0, .int .i16 0, .int .i16 0]) ?_ 0 _ rfl; (with_reducible repeat (first | refine blk_drewN ?_ _ | refine blk_drew ?_ | refine blk_alloc ?_ _)); exact BK105.out) hg (Kd.R_ne HO_5.out BK105.out (by decide))); have n2_ := Aside0.mk (hb); have n3_ := Aside0.mk (ho); clear BK0; clear BK105; clear HB; clear HO_5; have BK0 := n0_; have BK105 := n1_; have HB := n2_; have HO108 := n3_; clear n0_ n1_ n2_ n3_; clear ho hb hg hat)); try go_wp2_with (first | ((with_reducible refine gate_dst (N := 7) rfl ?_); refine box_event ?hg (N := 7) ?hd (cs := #[.int .i8 0, .int .i16 0, .int .i16 0]) (t := 68) ?hr ?_; (case hd => rfl); (case hg => rfl); (case hr => first | (go_simp; done) | (go_simp; rfl)); intro gb105 hg w13 hbox hb; have n0_ := Aside0.mk (Kd.R_below (by (with_reducible repeat (first | apply Kd.R_alloc | apply Kd.R_drewN | apply Kd.R_drew)); exact HO_5.out) hb); have n1_ := Aside0.mk (blk_below (g := gro0) (o := .cells #[.int .i8 a0_0, .slice (some ad104) l0_1.length c0_1, .slice A0_2 l0_2.length c0_2] 30 (0, 0)) (by (with_reducible repeat (first | refine blk_drewN ?_ _ | refine blk_drew ?_ | refine blk_alloc ?_ _)); exact BK0.out) hb); have n2_ := Aside0.mk (below_step (by repeat (first | (with_reducible first | exact HB.out | apply below_alloc | apply pw_below_drewN | apply below_drew1 | refine below_set ?_ GE0.out) | exact HB.out)) hb); have n3_ := Aside0.mk (hbox); have n4_ := Aside0.mk ((by rw [hg]; exact (below_size (by repeat (first | (with_reducible first | exact HB.out | apply below_alloc | apply pw_below_drewN | apply below_drew1 | refine below_set ?_ GE0.out) | exact HB.out))) : w.heap.size ≤ gb105)); have n5_ := Aside0.mk ((by rw [hg]; exact (below_size (by repeat (first | (with_reducible first | exact HB.out | apply below_alloc | apply pw_below_drewN | apply below_drew1 | refine below_set ?_ GE0.out) | exact HB.out))) : w.heap.size ≤ gb105)); have n6_ := Aside0.mk ((by rw [hg]; exact Nat.ne_of_lt (blk_lt (g := gro0) (o := .cells #[.int .i8 a0_0, .slice (some ad104) l0_1.length c0_1, .slice A0_2 l0_2.length c0_2] 30 (0, 0)) (by (with_reducible repeat (first | refine blk_drewN ?_ _ | refine blk_drew ?_ | refine blk_alloc ?_ _)); exact BK0.out)) : gro0 ≠ gb105)); have n7_ := Aside0.mk ((by rw [hg]; exact Nat.ne_of_gt (blk_lt (g := gro0) (o := .cells #[.int .i8 a0_0, .slice (some ad104) l0_1.length c0_1, .slice A0_2 l0_2.length c0_2] 30 (0, 0)) (by (with_reducible repeat (first | refine blk_drewN ?_ _ | refine blk_drew ?_ | refine blk_alloc ?_ _)); exact BK0.out)) : gb105 ≠ gro0)); clear HO_5; clear BK0; clear HB; have HO_5 := n0_; have BK0 := n1_; have HB := n2_; have BK105 := n3_; have GW105 := n4_; have GE105 := n5_; have NB0_105 := n6_; have NB105_0 := n7_; clear n0_ n1_ n2_ n3_ n4_ n5_ n6_ n7_; clear hb hbox hg; have hnb14 := NB105_0.out; have hnc14 := NB0_105.out; have hcz15_0 : w13.cell? ⟨gb105, 0, none⟩ = some (.int .i8 0) := (blk_cell BK105.out 0).trans rfl; have hcz15_1 : w13.cell? ⟨gb105, 1, none⟩ = some (.int .i16 0) := (blk_cell BK105.out 1).trans rfl; have hcz15_2 : w13.cell? ⟨gb105, 2, none⟩ = some (.int .i16 0) := (blk_cell BK105.out 2).trans rfl; have hfz15_0 := blk_frozen BK105.out 0; have hfz15_1 := blk_frozen BK105.out 1; have hfz15_2 := blk_frozen BK105.out 2) | ((with_reducible refine gate_builtin (b := .append) (xs := #[.tmp 64, .tmp 66]) rfl ?_); at_builtin; refine Kd.R_append Kd.bool (w0 := w) w.heap.size rfl (.tmp 64) (.tmp 66) 81 4 (.bool false) 1 rfl Try.underlying81 info4 rfl (by decide) (by omega) u5 x5_1 ((Int.tmod (ji10) 2) == 1) [.bool ((Int.tmod (ji10) 2) == 1)] (fun _ => True) (fun _ => False) rfl (by first | (go_simp; done) | (go_simp; rfl)) ?aP (fun _ hk => hk.elim) ?aF ?aO ?aB ?aS ?aL ?_; (case aP => exact rfl); (case aB => exact (by repeat (first | (with_reducible first | exact HB.out | apply below_alloc | apply pw_below_drewN | apply below_drew1 | refine below_set ?_ GE0.out | refine below_set ?_ GE105.out) | exact HB.out))); (case aF => exact (fun _ _ => trivial)); (case aO => exact (by (with_reducible repeat (first | apply Kd.R_alloc | apply Kd.R_drewN | apply Kd.R_drew)); exact Kd.R_mono (Kd.R_far (p := ⟨gb105, 2, none⟩) (Kd.R_far (p := ⟨gb105, 1, none⟩) (Kd.R_far (p := ⟨gb105, 0, none⟩) (Kd.R_types HO_5.out BK105.out (by decide)) (fun _ hk => hk.2) (.int .i8 ((rd_T68 l0_1 x6_1).f0))) (fun _ hk => hk.2) (.int .i16 ((rd_T68 l0_1 x6_1).f1))) (fun _ hk => hk.2) (.int .i16 ((rd_T68 l0_1 x6_1).f2))) (fun _ hk => trivial))); (case aS => exact (below_size (by repeat (first | (with_reducible first | exact HB.out | apply below_alloc | apply pw_below_drewN | apply below_drew1 | refine below_set ?_ GE0.out | refine below_set ?_ GE105.out) | exact HB.out)))); (case aL => have := LMc11.out; omega); intro v107 w16 ho hb hg hat; rw [← Ny106.out] at ho; have n0_ := Aside0.mk (blk_grown (g := gro0) (o := .cells #[.int .i8 a0_0, .slice (some ad104) l0_1.length c0_1, .slice A0_2 l0_2.length c0_2] 30 (0, 0)) (by (with_reducible repeat (first | refine blk_drewN ?_ _ | refine blk_drew ?_ | refine blk_alloc ?_ _)); refine blk_far ?_ NB0_105.out _; (with_reducible repeat (first | refine blk_drewN ?_ _ | refine blk_drew ?_ | refine blk_alloc ?_ _)); refine blk_far ?_ NB0_105.out _; (with_reducible repeat (first | refine blk_drewN ?_ _ | refine blk_drew ?_ | refine blk_alloc ?_ _)); refine blk_far ?_ NB0_105.out _; (with_reducible repeat (first | refine blk_drewN ?_ _ | refine blk_drew ?_ | refine blk_alloc ?_ _)); exact BK0.out) hg (Kd.R_ne HO_5.out BK0.out (by decide))); have n1_ := Aside0.mk (blk_grown (g := gb105) (o := .cells #[.int .i8 ((rd_T68 l0_1 x6_1).f0), .int .i16 ((rd_T68 l0_1 x6_1).f1), .int .i16 ((rd_T68 l0_1 x6_1).f2)] 68 (0, 0)) (by (with_reducible repeat (first | refine blk_drewN ?_ _ | refine blk_drew ?_ | refine blk_alloc ?_ _)); refine blk_put (cs := #[.int .i8 ((rd_T68 l0_1 x6_1).f0), .int .i16 ((rd_T68 l0_1 x6_1).f1), .int .i16 0]) ?_ 2 _ rfl; (with_reducible repeat (first | refine blk_drewN ?_ _ | refine blk_drew ?_ | refine blk_alloc ?_ _)); refine blk_put (cs := #[.int .i8 ((rd_T68 l0_1 x6_1).f0), .int .i16 0, .int .i16 0]) ?_ 1 _ rfl; (with_reducible repeat (first | refine blk_drewN ?_ _ | refine blk_drew ?_ | refine blk_alloc ?_ _)); refine blk_put (cs := #[.int .i8 0, .int .i16 0, .int .i16 0]) ?_ 0 _ rfl; (with_reducible repeat (first | refine blk_drewN ?_ _ | refine blk_drew ?_ | refine blk_alloc ?_ _)); exact BK105.out) hg (Kd.R_ne HO_5.out BK105.out (by decide))); have n2_ := Aside0.mk (hb); have n3_ := Aside0.mk (ho); clear BK0; clear BK105; clear HB; clear HO_5; have BK0 := n0_; have BK105 := n1_; have HB := n2_; have HO108 := n3_; clear n0_ n1_ n2_ n3_; clear ho hb hg hat)))
                go_roundg k1
                case measure => have := HK1.out; omega
                case rel => exact ⟨(y106), (wrap64 (x6_1 + 1)), (by first | rfl | (simp; done) | (simp [*]; done)), H', ⟨by have := HK1.out; omega⟩, ⟨by (with_reducible repeat (first | apply Kd.R_alloc | apply Kd.R_drewN | apply Kd.R_drew)); exact HO108.out⟩, ⟨by (with_reducible repeat (first | refine blk_drewN ?_ _ | refine blk_drew ?_ | refine blk_alloc ?_ _)); exact BK0.out⟩, ⟨by repeat (first | (with_reducible first | exact HB.out | apply below_alloc | apply pw_below_drewN | apply below_drew1 | refine below_set ?_ GE0.out | refine below_set ?_ GE105.out) | exact HB.out)⟩⟩
              · rw [if_neg c11] at H
                exact absurd H (by simp)
            · rw [if_neg c9] at H
              exact absurd H (by simp)
          · rw [if_neg c7] at H
            have c7b0 : (((rd_T68 l0_1 x6_1).f0) == 0) = false := beq_eq_false_iff_ne.mpr c7
            have c7b1 : (((rd_T68 l0_1 x6_1).f0) != 0) = true := bne_iff_ne.mpr c7
            by_cases c17 : ((rd_T68 l0_1 x6_1).f0) = 2
            · rw [if_pos c17] at H
              have c17b0 : (((rd_T68 l0_1 x6_1).f0) == 2) = true := beq_iff_eq.mpr c17
              have c17b1 : (((rd_T68 l0_1 x6_1).f0) != 2) = false := bne_eq_false_iff_eq.mpr c17
              clear c17
              by_cases c18 : 0 ≤ ((rd_T68 l0_1 x6_1).f1)
              · rw [if_pos c18] at H
                have c18b0 : decide (0 ≤ ((rd_T68 l0_1 x6_1).f1)) = true := decide_eq_true c18
                clear c18
                by_cases c19 : ((rd_T68 l0_1 x6_1).f1) < (x5_1.length : Int)
                · rw [if_pos c19] at H
                  have c19b0 : decide (((rd_T68 l0_1 x6_1).f1) < (x5_1.length : Int)) = true := decide_eq_true c19
                  clear c19
                  by_cases c20 : 0 ≤ ((rd_T68 l0_1 x6_1).f2)
                  · rw [if_pos c20] at H
                    have c20b0 : decide (0 ≤ ((rd_T68 l0_1 x6_1).f2)) = true := decide_eq_true c20
                    clear c20
                    by_cases c21 : ((rd_T68 l0_1 x6_1).f2) < (x5_1.length : Int)
                    · rw [if_pos c21] at H
                      have c21b0 : decide (((rd_T68 l0_1 x6_1).f2) < (x5_1.length : Int)) = true := decide_eq_true c21
                      clear c21
                      by_cases c22 : x5_1.length < 140737488355328
                      · rw [if_pos c22] at H
                        have LMc22 := Aside0.mk c22
                        clear c22
                        obtain ⟨y111, hy111⟩ : ∃ y_ : List Bool, y_ = (x5_1 ++ [((rdOf false x5_1 ((rd_T68 l0_1 x6_1).f1)) != (rdOf false x5_1 ((rd_T68 l0_1 x6_1).f2)))]) := ⟨_, rfl⟩
                        replace H : (spec_l07Values.l0 k1 a1 y111 (wrap64 (x6_1 + 1)) a0_0 l0_1 l0_2) = some r := by first | (rw [hy111]; with_reducible exact H) | (have H2_ := (Option.bind_some _ _).symm.trans H; rw [hy111]; with_reducible exact H2_) | (have H2_ := (Option.bind_some _ _).symm.trans H; with_reducible exact H2_) | with_reducible exact H | (rw [hy111]; exact H) | exact H
                        have Ny111 := Aside0.mk hy111
                        clear hy111
                        have H' := Aside0.mk H
                        clear H
                        have hcz23_0 : wr.cell? ⟨gro0, 0, none⟩ = some (.int .i8 a0_0) := (blk_cell BK0.out 0).trans rfl
                        have hcz23_1 : wr.cell? ⟨gro0, 1, none⟩ = some (.slice A0_1 l0_1.length c0_1) := (blk_cell BK0.out 1).trans rfl
                        have hcz23_2 : wr.cell? ⟨gro0, 2, none⟩ = some (.slice A0_2 l0_2.length c0_2) := (blk_cell BK0.out 2).trans rfl
                        have hfz23_0 := blk_frozen BK0.out 0
                        have hfz23_1 := blk_frozen BK0.out 1
                        have hfz23_2 := blk_frozen BK0.out 2
                        have p104 : 0 ≤ (x6_1 : Int) := of_decide_eq_true (by first | (with_reducible assumption) | assumption)
                        have q104 : x6_1 < (l0_1.length : Int) := of_decide_eq_true (by first | (with_reducible assumption) | assumption)
                        obtain ⟨ad104, e104, hx104_0, hx104_1, hx104_2⟩ := at_T68 HR0_1.out x6_1 p104 q104
                        cases e104
                        replace hx104_0 := (HB.out.cell (World.block_lt_of_cell? w _ hx104_0)).trans hx104_0
                        replace hx104_1 := (HB.out.cell (World.block_lt_of_cell? w _ hx104_1)).trans hx104_1
                        replace hx104_2 := (HB.out.cell (World.block_lt_of_cell? w _ hx104_2)).trans hx104_2
                        replace p104 := eq_true p104
                        replace q104 := eq_true q104
                        go_wp2_with (first | ((with_reducible refine gate_dst (N := 7) rfl ?_); refine box_event ?hg (N := 7) ?hd (cs := #[.int .i8 0, .int .i16 0, .int .i16 0]) (t := 68) ?hr ?_; (case hd => rfl); (case hg => rfl); (case hr => first | (go_simp; done) | (go_simp; rfl)); intro gb105 hg w24 hbox hb; have n0_ := Aside0.mk (Kd.R_below (by (with_reducible repeat (first | apply Kd.R_alloc | apply Kd.R_drewN | apply Kd.R_drew)); exact HO_5.out) hb); have n1_ := Aside0.mk (blk_below (g := gro0) (o := .cells #[.int .i8 a0_0, .slice (some ad104) l0_1.length c0_1, .slice A0_2 l0_2.length c0_2] 30 (0, 0)) (by (with_reducible repeat (first | refine blk_drewN ?_ _ | refine blk_drew ?_ | refine blk_alloc ?_ _)); exact BK0.out) hb); have n2_ := Aside0.mk (below_step (by repeat (first | (with_reducible first | exact HB.out | apply below_alloc | apply pw_below_drewN | apply below_drew1 | refine below_set ?_ GE0.out) | exact HB.out)) hb); have n3_ := Aside0.mk (hbox); have n4_ := Aside0.mk ((by rw [hg]; exact (below_size (by repeat (first | (with_reducible first | exact HB.out | apply below_alloc | apply pw_below_drewN | apply below_drew1 | refine below_set ?_ GE0.out) | exact HB.out))) : w.heap.size ≤ gb105)); have n5_ := Aside0.mk ((by rw [hg]; exact (below_size (by repeat (first | (with_reducible first | exact HB.out | apply below_alloc | apply pw_below_drewN | apply below_drew1 | refine below_set ?_ GE0.out) | exact HB.out))) : w.heap.size ≤ gb105)); have n6_ := Aside0.mk ((by rw [hg]; exact Nat.ne_of_lt (blk_lt (g := gro0) (o := .cells #[.int .i8 a0_0, .slice (some ad104) l0_1.length c0_1, .slice A0_2 l0_2.length c0_2] 30 (0, 0)) (by (with_reducible repeat (first | refine blk_drewN ?_ _ | refine blk_drew ?_ | refine blk_alloc ?_ _)); exact BK0.out)) : gro0 ≠ gb105)); have n7_ := Aside0.mk ((by rw [hg]; exact Nat.ne_of_gt (blk_lt (g := gro0) (o := .cells #[.int .i8 a0_0, .slice (some ad104) l0_1.length c0_1, .slice A0_2 l0_2.length c0_2] 30 (0, 0)) (by (with_reducible repeat (first | refine blk_drewN ?_ _ | refine blk_drew ?_ | refine blk_alloc ?_ _)); exact BK0.out)) : gb105 ≠ gro0)); clear HO_5; clear BK0; clear HB; have HO_5 := n0_; have BK0 := n1_; have HB := n2_; have BK105 := n3_; have GW105 := n4_; have GE105 := n5_; have NB0_105 := n6_; have NB105_0 := n7_; clear n0_ n1_ n2_ n3_ n4_ n5_ n6_ n7_; clear hb hbox hg; have hnb25 := NB105_0.out; have hnc25 := NB0_105.out; have hcz26_0 : w24.cell? ⟨gb105, 0, none⟩ = some (.int .i8 0) := (blk_cell BK105.out 0).trans rfl; have hcz26_1 : w24.cell? ⟨gb105, 1, none⟩ = some (.int .i16 0) := (blk_cell BK105.out 1).trans rfl; have hcz26_2 : w24.cell? ⟨gb105, 2, none⟩ = some (.int .i16 0) := (blk_cell BK105.out 2).trans rfl; have hfz26_0 := blk_frozen BK105.out 0; have hfz26_1 := blk_frozen BK105.out 1; have hfz26_2 := blk_frozen BK105.out 2; obtain ⟨Ao27, co27, eo27⟩ := Kd.R_slice HO_5.out; subst eo27; have p109 : 0 ≤ (((rd_T68 l0_1 x6_1).f1) : Int) := of_decide_eq_true (by first | (with_reducible assumption) | assumption); have q109 : ((rd_T68 l0_1 x6_1).f1) < (x5_1.length : Int) := of_decide_eq_true (by first | (with_reducible assumption) | assumption); obtain ⟨ad109, e109, hx109_0⟩ := Kd.at_bool (Kd.R_reads' HO_5.out).2.2 ((rd_T68 l0_1 x6_1).f1) p109 q109; cases e109; have hn109_0 : ad109.block ≠ gb105 := Kd.own_blk (Kd.R_ne HO_5.out BK105.out (by decide)); have hn109_1 : ad109.block ≠ gb105 := Kd.own_blk (Kd.R_ne HO_5.out BK105.out (by decide)); have hn109_2 : ad109.block ≠ gb105 := Kd.own_blk (Kd.R_ne HO_5.out BK105.out (by decide)); replace hx109_0 := (cell_far (p := ⟨gb105, 0, none⟩) (by first | (rw [add_block]; exact hn109_0) | (show (Addr.add _ _).block ≠ _; rw [add_block]; exact hn109_0) | exact hn109_0) (.int .i8 ((rd_T68 l0_1 x6_1).f0))).trans hx109_0; replace hx109_0 := (cell_far (p := ⟨gb105, 1, none⟩) (by first | (rw [add_block]; exact hn109_1) | (show (Addr.add _ _).block ≠ _; rw [add_block]; exact hn109_1) | exact hn109_1) (.int .i16 ((rd_T68 l0_1 x6_1).f1))).trans hx109_0; replace hx109_0 := (cell_far (p := ⟨gb105, 2, none⟩) (by first | (rw [add_block]; exact hn109_2) | (show (Addr.add _ _).block ≠ _; rw [add_block]; exact hn109_2) | exact hn109_2) (.int .i16 ((rd_T68 l0_1 x6_1).f2))).trans hx109_0; (try have hy109_0 := fun (n_ : Nat) => (show (((((w24.drewN n_).setCell ⟨gb105, 0, none⟩ (.int .i8 ((rd_T68 l0_1 x6_1).f0))).setCell ⟨gb105, 1, none⟩ (.int .i16 ((rd_T68 l0_1 x6_1).f1))).setCell ⟨gb105, 2, none⟩ (.int .i16 ((rd_T68 l0_1 x6_1).f2)))).cell? _ = some _ from hx109_0)); clear hn109_0; clear hn109_1; clear hn109_2; replace p109 := eq_true p109; replace q109 := eq_true q109; have p110 : 0 ≤ (((rd_T68 l0_1 x6_1).f2) : Int) := of_decide_eq_true (by first | (with_reducible assumption) | assumption); have q110 : ((rd_T68 l0_1 x6_1).f2) < (x5_1.length : Int) := of_decide_eq_true (by first | (with_reducible assumption) | assumption); obtain ⟨ad110, e110, hx110_0⟩ := Kd.at_bool (Kd.R_reads' HO_5.out).2.2 ((rd_T68 l0_1 x6_1).f2) p110 q110; obtain rfl : ad109 = ad110 := (by injection e110); have hn110_0 : ad109.block ≠ gb105 := Kd.own_blk (Kd.R_ne HO_5.out BK105.out (by decide)); have hn110_1 : ad109.block ≠ gb105 := Kd.own_blk (Kd.R_ne HO_5.out BK105.out (by decide)); have hn110_2 : ad109.block ≠ gb105 := Kd.own_blk (Kd.R_ne HO_5.out BK105.out (by decide)); replace hx110_0 := (cell_far (p := ⟨gb105, 0, none⟩) (by first | (rw [add_block]; exact hn110_0) | (show (Addr.add _ _).block ≠ _; rw [add_block]; exact hn110_0) | exact hn110_0) (.int .i8 ((rd_T68 l0_1 x6_1).f0))).trans hx110_0; replace hx110_0 := (cell_far (p := ⟨gb105, 1, none⟩) (by first | (rw [add_block]; exact hn110_1) | (show (Addr.add _ _).block ≠ _; rw [add_block]; exact hn110_1) | exact hn110_1) (.int .i16 ((rd_T68 l0_1 x6_1).f1))).trans hx110_0; replace hx110_0 := (cell_far (p := ⟨gb105, 2, none⟩) (by first | (rw [add_block]; exact hn110_2) | (show (Addr.add _ _).block ≠ _; rw [add_block]; exact hn110_2) | exact hn110_2) (.int .i16 ((rd_T68 l0_1 x6_1).f2))).trans hx110_0; (try have hy110_0 := fun (n_ : Nat) => (show (((((w24.drewN n_).setCell ⟨gb105, 0, none⟩ (.int .i8 ((rd_T68 l0_1 x6_1).f0))).setCell ⟨gb105, 1, none⟩ (.int .i16 ((rd_T68 l0_1 x6_1).f1))).setCell ⟨gb105, 2, none⟩ (.int .i16 ((rd_T68 l0_1 x6_1).f2)))).cell? _ = some _ from hx110_0)); clear hn110_0; clear hn110_1; clear hn110_2; replace p110 := eq_true p110; replace q110 := eq_true q110) | ((with_reducible refine gate_builtin (b := .append) (xs := #[.tmp 64, .tmp 66]) rfl ?_); at_builtin; refine Kd.R_append Kd.bool (w0 := w) w.heap.size rfl (.tmp 64) (.tmp 66) 81 4 (.bool false) 1 rfl Try.underlying81 info4 rfl (by decide) (by omega) (.slice (some ad109) x5_1.length co27) x5_1 ((rdOf false x5_1 ((rd_T68 l0_1 x6_1).f1)) != (rdOf false x5_1 ((rd_T68 l0_1 x6_1).f2))) [.bool ((rdOf false x5_1 ((rd_T68 l0_1 x6_1).f1)) != (rdOf false x5_1 ((rd_T68 l0_1 x6_1).f2)))] (fun _ => True) (fun _ => False) rfl (by first | (go_simp; done) | (go_simp; rfl)) ?aP (fun _ hk => hk.elim) ?aF ?aO ?aB ?aS ?aL ?_; (case aP => exact rfl); (case aB => exact (by repeat (first | (with_reducible first | exact HB.out | apply below_alloc | apply pw_below_drewN | apply below_drew1 | refine below_set ?_ GE0.out | refine below_set ?_ GE105.out) | exact HB.out))); (case aF => exact (fun _ _ => trivial)); (case aO => exact (by (with_reducible repeat (first | apply Kd.R_alloc | apply Kd.R_drewN | apply Kd.R_drew)); exact Kd.R_mono (Kd.R_far (p := ⟨gb105, 2, none⟩) (Kd.R_far (p := ⟨gb105, 1, none⟩) (Kd.R_far (p := ⟨gb105, 0, none⟩) (Kd.R_types HO_5.out BK105.out (by decide)) (fun _ hk => hk.2) (.int .i8 ((rd_T68 l0_1 x6_1).f0))) (fun _ hk => hk.2) (.int .i16 ((rd_T68 l0_1 x6_1).f1))) (fun _ hk => hk.2) (.int .i16 ((rd_T68 l0_1 x6_1).f2))) (fun _ hk => trivial))); (case aS => exact (below_size (by repeat (first | (with_reducible first | exact HB.out | apply below_alloc | apply pw_below_drewN | apply below_drew1 | refine below_set ?_ GE0.out | refine below_set ?_ GE105.out) | exact HB.out)))); (case aL => have := LMc22.out; omega); intro v112 w28 ho hb hg hat; rw [← Ny111.out] at ho; have n0_ := Aside0.mk (blk_grown (g := gro0) (o := .cells #[.int .i8 a0_0, .slice (some ad104) l0_1.length c0_1, .slice A0_2 l0_2.length c0_2] 30 (0, 0)) (by (with_reducible repeat (first | refine blk_drewN ?_ _ | refine blk_drew ?_ | refine blk_alloc ?_ _)); refine blk_far ?_ NB0_105.out _; (with_reducible repeat (first | refine blk_drewN ?_ _ | refine blk_drew ?_ | refine blk_alloc ?_ _)); refine blk_far ?_ NB0_105.out _; (with_reducible repeat (first | refine blk_drewN ?_ _ | refine blk_drew ?_ | refine blk_alloc ?_ _)); refine blk_far ?_ NB0_105.out _; (with_reducible repeat (first | refine blk_drewN ?_ _ | refine blk_drew ?_ | refine blk_alloc ?_ _)); exact BK0.out) hg (Kd.R_ne HO_5.out BK0.out (by decide))); have n1_ := Aside0.mk (blk_grown (g := gb105) (o := .cells #[.int .i8 ((rd_T68 l0_1 x6_1).f0), .int .i16 ((rd_T68 l0_1 x6_1).f1), .int .i16 ((rd_T68 l0_1 x6_1).f2)] 68 (0, 0)) (by (with_reducible repeat (first | refine blk_drewN ?_ _ | refine blk_drew ?_ | refine blk_alloc ?_ _)); refine blk_put (cs := #[.int .i8 ((rd_T68 l0_1 x6_1).f0), .int .i16 ((rd_T68 l0_1 x6_1).f1), .int .i16 0]) ?_ 2 _ rfl; (with_reducible repeat (first | refine blk_drewN ?_ _ | refine blk_drew ?_ | refine blk_alloc ?_ _)); refine blk_put (cs := #[.int .i8 ((rd_T68 l0_1 x6_1).f0), .int .i16 0, .int .i16 0]) ?_ 1 _ rfl; (with_reducible repeat (first | refine blk_drewN ?_ _ | refine blk_drew ?_ | refine blk_alloc ?_ _)); refine blk_put (cs := #[.int .i8 0, .int .i16 0, .int .i16 0]) ?_ 0 _ rfl; (with_reducible repeat (first | refine blk_drewN ?_ _ | refine blk_drew ?_ | refine blk_alloc ?_ _)); exact BK105.out) hg (Kd.R_ne HO_5.out BK105.out (by decide))); have n2_ := Aside0.mk (hb); have n3_ := Aside0.mk (ho); clear BK0; clear BK105; clear HB; clear HO_5; have BK0 := n0_; have BK105 := n1_; have HB := n2_; have HO113 := n3_; clear n0_ n1_ n2_ n3_; clear ho hb hg hat))
                        repeat (go_quiet (first | ((with_reducible refine gate_dst (N := 7) rfl ?_); refine box_event ?hg (N := 7) ?hd (cs := #[.int .i8 0, .int .i16 0, .int .i16 0]) (t := 68) ?hr ?_; (case hd => rfl); (case hg => rfl); (case hr => first | (go_simp; done) | (go_simp; rfl)); intro gb105 hg w24 hbox hb; have n0_ := Aside0.mk (Kd.R_below (by (with_reducible repeat (first | apply Kd.R_alloc | apply Kd.R_drewN | apply Kd.R_drew)); exact HO_5.out) hb); have n1_ := Aside0.mk (blk_below (g := gro0) (o := .cells #[.int .i8 a0_0, .slice (some ad104) l0_1.length c0_1, .slice A0_2 l0_2.length c0_2] 30 (0, 0)) (by (with_reducible repeat (first | refine blk_drewN ?_ _ | refine blk_drew ?_ | refine blk_alloc ?_ _)); exact BK0.out) hb); have n2_ := Aside0.mk (below_step (by repeat (first | (with_reducible first | exact HB.out | apply below_alloc | apply pw_below_drewN | apply below_drew1 | refine below_set ?_ GE0.out) | exact HB.out)) hb); have n3_ := Aside0.mk (hbox); have n4_ := Aside0.mk ((by rw [hg]; exact (below_size (by repeat (first | (with_reducible first | exact HB.out | apply below_alloc | apply pw_below_drewN | apply below_drew1 | refine below_set ?_ GE0.out) | exact HB.out))) : w.heap.size ≤ gb105)); have n5_ := Aside0.mk ((by rw [hg]; exact (below_size (by repeat (first | (with_reducible first | exact HB.out | apply below_alloc | apply pw_below_drewN | apply below_drew1 | refine below_set ?_ GE0.out) | exact HB.out))) : w.heap.size ≤ gb105)); have n6_ := Aside0.mk ((by rw [hg]; exact Nat.ne_of_lt (blk_lt (g := gro0) (o := .cells #[.int .i8 a0_0, .slice (some ad104) l0_1.length c0_1, .slice A0_2 l0_2.length c0_2] 30 (0, 0)) (by (with_reducible repeat (first | refine blk_drewN ?_ _ | refine blk_drew ?_ | refine blk_alloc ?_ _)); exact BK0.out)) : gro0 ≠ gb105)); have n7_ := Aside0.mk ((by rw [hg]; exact Nat.ne_of_gt (blk_lt (g := gro0) (o := .cells #[.int .i8 a0_0, .slice (some ad104) l0_1.length c0_1, .slice A0_2 l0_2.length c0_2] 30 (0, 0)) (by (with_reducible repeat (first | refine blk_drewN ?_ _ | refine blk_drew ?_ | refine blk_alloc ?_ _)); exact BK0.out)) : gb105 ≠ gro0)); clear HO_5; clear BK0; clear HB; have HO_5 := n0_; have BK0 := n1_; have HB := n2_; have BK105 := n3_; have GW105 := n4_; have GE105 := n5_; have NB0_105 := n6_; have NB105_0 := n7_; clear n0_ n1_ n2_ n3_ n4_ n5_ n6_ n7_; clear hb hbox hg; have hnb25 := NB105_0.out; have hnc25 := NB0_105.out; have hcz26_0 : w24.cell? ⟨gb105, 0, none⟩ = some (.int .i8 0) := (blk_cell BK105.out 0).trans rfl; have hcz26_1 : w24.cell? ⟨gb105, 1, none⟩ = some (.int .i16 0) := (blk_cell BK105.out 1).trans rfl; have hcz26_2 : w24.cell? ⟨gb105, 2, none⟩ = some (.int .i16 0) := (blk_cell BK105.out 2).trans rfl; have hfz26_0 := blk_frozen BK105.out 0; have hfz26_1 := blk_frozen BK105.out 1; have hfz26_2 := blk_frozen BK105.out 2; obtain ⟨Ao27, co27, eo27⟩ := Kd.R_slice HO_5.out; subst eo27; have p109 : 0 ≤ (((rd_T68 l0_1 x6_1).f1) : Int) := of_decide_eq_true (by first | (with_reducible assumption) | assumption); have q109 : ((rd_T68 l0_1 x6_1).f1) < (x5_1.length : Int) := of_decide_eq_true (by first | (with_reducible assumption) | assumption); obtain ⟨ad109, e109, hx109_0⟩ := Kd.at_bool (Kd.R_reads' HO_5.out).2.2 ((rd_T68 l0_1 x6_1).f1) p109 q109; cases e109; have hn109_0 : ad109.block ≠ gb105 := Kd.own_blk (Kd.R_ne HO_5.out BK105.out (by decide)); have hn109_1 : ad109.block ≠ gb105 := Kd.own_blk (Kd.R_ne HO_5.out BK105.out (by decide)); have hn109_2 : ad109.block ≠ gb105 := Kd.own_blk (Kd.R_ne HO_5.out BK105.out (by decide)); replace hx109_0 := (cell_far (p := ⟨gb105, 0, none⟩) (by first | (rw [add_block]; exact hn109_0) | (show (Addr.add _ _).block ≠ _; rw [add_block]; exact hn109_0) | exact hn109_0) (.int .i8 ((rd_T68 l0_1 x6_1).f0))).trans hx109_0; replace hx109_0 := (cell_far (p := ⟨gb105, 1, none⟩) (by first | (rw [add_block]; exact hn109_1) | (show (Addr.add _ _).block ≠ _; rw [add_block]; exact hn109_1) | exact hn109_1) (.int .i16 ((rd_T68 l0_1 x6_1).f1))).trans hx109_0; replace hx109_0 := (cell_far (p := ⟨gb105, 2, none⟩) (by first | (rw [add_block]; exact hn109_2) | (show (Addr.add _ _).block ≠ _; rw [add_block]; exact hn109_2) | exact hn109_2) (.int .i16 ((rd_T68 l0_1 x6_1).f2))).trans hx109_0; (try have hy109_0 := fun (n_ : Nat) => (show (((((w24.drewN n_).setCell ⟨gb105, 0, none⟩ (.int .i8 ((rd_T68 l0_1 x6_1).f0))).setCell ⟨gb105, 1, none⟩ (.int .i16 ((rd_T68 l0_1 x6_1).f1))).setCell ⟨gb105, 2, none⟩ (.int .i16 ((rd_T68 l0_1 x6_1).f2)))).cell? _ = some _ from hx109_0)); clear hn109_0; clear hn109_1; clear hn109_2; replace p109 := eq_true p109; replace q109 := eq_true q109; have p110 : 0 ≤ (((rd_T68 l0_1 x6_1).f2) : Int) := of_decide_eq_true (by first | (with_reducible assumption) | assumption); have q110 : ((rd_T68 l0_1 x6_1).f2) < (x5_1.length : Int) := of_decide_eq_true (by first | (with_reducible assumption) | assumption); obtain ⟨ad110, e110, hx110_0⟩ := Kd.at_bool (Kd.R_reads' HO_5.out).2.2 ((rd_T68 l0_1 x6_1).f2) p110 q110; obtain rfl : ad109 = ad110 := (by injection e110); have hn110_0 : ad109.block ≠ gb105 := Kd.own_blk (Kd.R_ne HO_5.out BK105.out (by decide)); have hn110_1 : ad109.block ≠ gb105 := Kd.own_blk (Kd.R_ne HO_5.out BK105.out (by decide)); have hn110_2 : ad109.block ≠ gb105 := Kd.own_blk (Kd.R_ne HO_5.out BK105.out (by decide)); replace hx110_0 := (cell_far (p := ⟨gb105, 0, none⟩) (by first | (rw [add_block]; exact hn110_0) | (show (Addr.add _ _).block ≠ _; rw [add_block]; exact hn110_0) | exact hn110_0) (.int .i8 ((rd_T68 l0_1 x6_1).f0))).trans hx110_0; replace hx110_0 := (cell_far (p := ⟨gb105, 1, none⟩) (by first | (rw [add_block]; exact hn110_1) | (show (Addr.add _ _).block ≠ _; rw [add_block]; exact hn110_1) | exact hn110_1) (.int .i16 ((rd_T68 l0_1 x6_1).f1))).trans hx110_0; replace hx110_0 := (cell_far (p := ⟨gb105, 2, none⟩) (by first | (rw [add_block]; exact hn110_2) | (show (Addr.add _ _).block ≠ _; rw [add_block]; exact hn110_2) | exact hn110_2) (.int .i16 ((rd_T68 l0_1 x6_1).f2))).trans hx110_0; (try have hy110_0 := fun (n_ : Nat) => (show (((((w24.drewN n_).setCell ⟨gb105, 0, none⟩ (.int .i8 ((rd_T68 l0_1 x6_1).f0))).setCell ⟨gb105, 1, none⟩ (.int .i16 ((rd_T68 l0_1 x6_1).f1))).setCell ⟨gb105, 2, none⟩ (.int .i16 ((rd_T68 l0_1 x6_1).f2)))).cell? _ = some _ from hx110_0)); clear hn110_0; clear hn110_1; clear hn110_2; replace p110 := eq_true p110; replace q110 := eq_true q110) | ((with_reducible refine gate_builtin (b := .append) (xs := #[.tmp 64, .tmp 66]) rfl ?_); at_builtin; refine Kd.R_append Kd.bool (w0 := w) w.heap.size rfl (.tmp 64) (.tmp 66) 81 4 (.bool false) 1 rfl Try.underlying81 info4 rfl (by decide) (by omega) (.slice (some ad109) x5_1.length co27) x5_1 ((rdOf false x5_1 ((rd_T68 l0_1 x6_1).f1)) != (rdOf false x5_1 ((rd_T68 l0_1 x6_1).f2))) [.bool ((rdOf false x5_1 ((rd_T68 l0_1 x6_1).f1)) != (rdOf false x5_1 ((rd_T68 l0_1 x6_1).f2)))] (fun _ => True) (fun _ => False) rfl (by first | (go_simp; done) | (go_simp; rfl)) ?aP (fun _ hk => hk.elim) ?aF ?aO ?aB ?aS ?aL ?_; (case aP => exact rfl); (case aB => exact (by repeat (first | (with_reducible first | exact HB.out | apply below_alloc | apply pw_below_drewN | apply below_drew1 | refine below_set ?_ GE0.out | refine below_set ?_ GE105.out) | exact HB.out))); (case aF => exact (fun _ _ => trivial)); (case aO => exact (by (with_reducible repeat (first | apply Kd.R_alloc | apply Kd.R_drewN | apply Kd.R_drew)); exact Kd.R_mono (Kd.R_far (p := ⟨gb105, 2, none⟩) (Kd.R_far (p := ⟨gb105, 1, none⟩) (Kd.R_far (p := ⟨gb105, 0, none⟩) (Kd.R_types HO_5.out BK105.out (by decide)) (fun _ hk => hk.2) (.int .i8 ((rd_T68 l0_1 x6_1).f0))) (fun _ hk => hk.2) (.int .i16 ((rd_T68 l0_1 x6_1).f1))) (fun _ hk => hk.2) (.int .i16 ((rd_T68 l0_1 x6_1).f2))) (fun _ hk => trivial))); (case aS => exact (below_size (by repeat (first | (with_reducible first | exact HB.out | apply below_alloc | apply pw_below_drewN | apply below_drew1 | refine below_set ?_ GE0.out | refine below_set ?_ GE105.out) | exact HB.out)))); (case aL => have := LMc22.out; omega); intro v112 w28 ho hb hg hat; rw [← Ny111.out] at ho; have n0_ := Aside0.mk (blk_grown (g := gro0) (o := .cells #[.int .i8 a0_0, .slice (some ad104) l0_1.length c0_1, .slice A0_2 l0_2.length c0_2] 30 (0, 0)) (by (with_reducible repeat (first | refine blk_drewN ?_ _ | refine blk_drew ?_ | refine blk_alloc ?_ _)); refine blk_far ?_ NB0_105.out _; (with_reducible repeat (first | refine blk_drewN ?_ _ | refine blk_drew ?_ | refine blk_alloc ?_ _)); refine blk_far ?_ NB0_105.out _; (with_reducible repeat (first | refine blk_drewN ?_ _ | refine blk_drew ?_ | refine blk_alloc ?_ _)); refine blk_far ?_ NB0_105.out _; (with_reducible repeat (first | refine blk_drewN ?_ _ | refine blk_drew ?_ | refine blk_alloc ?_ _)); exact BK0.out) hg (Kd.R_ne HO_5.out BK0.out (by decide))); have n1_ := Aside0.mk (blk_grown (g := gb105) (o := .cells #[.int .i8 ((rd_T68 l0_1 x6_1).f0), .int .i16 ((rd_T68 l0_1 x6_1).f1), .int .i16 ((rd_T68 l0_1 x6_1).f2)] 68 (0, 0)) (by (with_reducible repeat (first | refine blk_drewN ?_ _ | refine blk_drew ?_ | refine blk_alloc ?_ _)); refine blk_put (cs := #[.int .i8 ((rd_T68 l0_1 x6_1).f0), .int .i16 ((rd_T68 l0_1 x6_1).f1), .int .i16 0]) ?_ 2 _ rfl; (with_reducible repeat (first | refine blk_drewN ?_ _ | refine blk_drew ?_ | refine blk_alloc ?_ _)); refine blk_put (cs := #[.int .i8 ((rd_T68 l0_1 x6_1).f0), .int .i16 0, .int .i16 0]) ?_ 1 _ rfl; (with_reducible repeat (first | refine blk_drewN ?_ _ | refine blk_drew ?_ | refine blk_alloc ?_ _)); refine blk_put (cs := #[.int .i8 0, .int .i16 0, .int .i16 0]) ?_ 0 _ rfl; (with_reducible repeat (first | refine blk_drewN ?_ _ | refine blk_drew ?_ | refine blk_alloc ?_ _)); exact BK105.out) hg (Kd.R_ne HO_5.out BK105.out (by decide))); have n2_ := Aside0.mk (hb); have n3_ := Aside0.mk (ho); clear BK0; clear BK105; clear HB; clear HO_5; have BK0 := n0_; have BK105 := n1_; have HB := n2_; have HO113 := n3_; clear n0_ n1_ n2_ n3_; clear ho hb hg hat)); try go_wp2_with (first | ((with_reducible refine gate_dst (N := 7) rfl ?_); refine box_event ?hg (N := 7) ?hd (cs := #[.int .i8 0, .int .i16 0, .int .i16 0]) (t := 68) ?hr ?_; (case hd => rfl); (case hg => rfl); (case hr => first | (go_simp; done) | (go_simp; rfl)); intro gb105 hg w24 hbox hb; have n0_ := Aside0.mk (Kd.R_below (by (with_reducible repeat (first | apply Kd.R_alloc | apply Kd.R_drewN | apply Kd.R_drew)); exact HO_5.out) hb); have n1_ := Aside0.mk (blk_below (g := gro0) (o := .cells #[.int .i8 a0_0, .slice (some ad104) l0_1.length c0_1, .slice A0_2 l0_2.length c0_2] 30 (0, 0)) (by (with_reducible repeat (first | refine blk_drewN ?_ _ | refine blk_drew ?_ | refine blk_alloc ?_ _)); exact BK0.out) hb); have n2_ := Aside0.mk (below_step (by repeat (first | (with_reducible first | exact HB.out | apply below_alloc | apply pw_below_drewN | apply below_drew1 | refine below_set ?_ GE0.out) | exact HB.out)) hb); have n3_ := Aside0.mk (hbox); have n4_ := Aside0.mk ((by rw [hg]; exact (below_size (by repeat (first | (with_reducible first | exact HB.out | apply below_alloc | apply pw_below_drewN | apply below_drew1 | refine below_set ?_ GE0.out) | exact HB.out))) : w.heap.size ≤ gb105)); have n5_ := Aside0.mk ((by rw [hg]; exact (below_size (by repeat (first | (with_reducible first | exact HB.out | apply below_alloc | apply pw_below_drewN | apply below_drew1 | refine below_set ?_ GE0.out) | exact HB.out))) : w.heap.size ≤ gb105)); have n6_ := Aside0.mk ((by rw [hg]; exact Nat.ne_of_lt (blk_lt (g := gro0) (o := .cells #[.int .i8 a0_0, .slice (some ad104) l0_1.length c0_1, .slice A0_2 l0_2.length c0_2] 30 (0, 0)) (by (with_reducible repeat (first | refine blk_drewN ?_ _ | refine blk_drew ?_ | refine blk_alloc ?_ _)); exact BK0.out)) : gro0 ≠ gb105)); have n7_ := Aside0.mk ((by rw [hg]; exact Nat.ne_of_gt (blk_lt (g := gro0) (o := .cells #[.int .i8 a0_0, .slice (some ad104) l0_1.length c0_1, .slice A0_2 l0_2.length c0_2] 30 (0, 0)) (by (with_reducible repeat (first | refine blk_drewN ?_ _ | refine blk_drew ?_ | refine blk_alloc ?_ _)); exact BK0.out)) : gb105 ≠ gro0)); clear HO_5; clear BK0; clear HB; have HO_5 := n0_; have BK0 := n1_; have HB := n2_; have BK105 := n3_; have GW105 := n4_; have GE105 := n5_; have NB0_105 := n6_; have NB105_0 := n7_; clear n0_ n1_ n2_ n3_ n4_ n5_ n6_ n7_; clear hb hbox hg; have hnb25 := NB105_0.out; have hnc25 := NB0_105.out; have hcz26_0 : w24.cell? ⟨gb105, 0, none⟩ = some (.int .i8 0) := (blk_cell BK105.out 0).trans rfl; have hcz26_1 : w24.cell? ⟨gb105, 1, none⟩ = some (.int .i16 0) := (blk_cell BK105.out 1).trans rfl; have hcz26_2 : w24.cell? ⟨gb105, 2, none⟩ = some (.int .i16 0) := (blk_cell BK105.out 2).trans rfl; have hfz26_0 := blk_frozen BK105.out 0; have hfz26_1 := blk_frozen BK105.out 1; have hfz26_2 := blk_frozen BK105.out 2; obtain ⟨Ao27, co27, eo27⟩ := Kd.R_slice HO_5.out; subst eo27; have p109 : 0 ≤ (((rd_T68 l0_1 x6_1).f1) : Int) := of_decide_eq_true (by first | (with_reducible assumption) | assumption); have q109 : ((rd_T68 l0_1 x6_1).f1) < (x5_1.length : Int) := of_decide_eq_true (by first | (with_reducible assumption) | assumption); obtain ⟨ad109, e109, hx109_0⟩ := Kd.at_bool (Kd.R_reads' HO_5.out).2.2 ((rd_T68 l0_1 x6_1).f1) p109 q109; cases e109; have hn109_0 : ad109.block ≠ gb105 := Kd.own_blk (Kd.R_ne HO_5.out BK105.out (by decide)); have hn109_1 : ad109.block ≠ gb105 := Kd.own_blk (Kd.R_ne HO_5.out BK105.out (by decide)); have hn109_2 : ad109.block ≠ gb105 := Kd.own_blk (Kd.R_ne HO_5.out BK105.out (by decide)); replace hx109_0 := (cell_far (p := ⟨gb105, 0, none⟩) (by first | (rw [add_block]; exact hn109_0) | (show (Addr.add _ _).block ≠ _; rw [add_block]; exact hn109_0) | exact hn109_0) (.int .i8 ((rd_T68 l0_1 x6_1).f0))).trans hx109_0; replace hx109_0 := (cell_far (p := ⟨gb105, 1, none⟩) (by first | (rw [add_block]; exact hn109_1) | (show (Addr.add _ _).block ≠ _; rw [add_block]; exact hn109_1) | exact hn109_1) (.int .i16 ((rd_T68 l0_1 x6_1).f1))).trans hx109_0; replace hx109_0 := (cell_far (p := ⟨gb105, 2, none⟩) (by first | (rw [add_block]; exact hn109_2) | (show (Addr.add _ _).block ≠ _; rw [add_block]; exact hn109_2) | exact hn109_2) (.int .i16 ((rd_T68 l0_1 x6_1).f2))).trans hx109_0; (try have hy109_0 := fun (n_ : Nat) => (show (((((w24.drewN n_).setCell ⟨gb105, 0, none⟩ (.int .i8 ((rd_T68 l0_1 x6_1).f0))).setCell ⟨gb105, 1, none⟩ (.int .i16 ((rd_T68 l0_1 x6_1).f1))).setCell ⟨gb105, 2, none⟩ (.int .i16 ((rd_T68 l0_1 x6_1).f2)))).cell? _ = some _ from hx109_0)); clear hn109_0; clear hn109_1; clear hn109_2; replace p109 := eq_true p109; replace q109 := eq_true q109; have p110 : 0 ≤ (((rd_T68 l0_1 x6_1).f2) : Int) := of_decide_eq_true (by first | (with_reducible assumption) | assumption); have q110 : ((rd_T68 l0_1 x6_1).f2) < (x5_1.length : Int) := of_decide_eq_true (by first | (with_reducible assumption) | assumption); obtain ⟨ad110, e110, hx110_0⟩ := Kd.at_bool (Kd.R_reads' HO_5.out).2.2 ((rd_T68 l0_1 x6_1).f2) p110 q110; obtain rfl : ad109 = ad110 := (by injection e110); have hn110_0 : ad109.block ≠ gb105 := Kd.own_blk (Kd.R_ne HO_5.out BK105.out (by decide)); have hn110_1 : ad109.block ≠ gb105 := Kd.own_blk (Kd.R_ne HO_5.out BK105.out (by decide)); have hn110_2 : ad109.block ≠ gb105 := Kd.own_blk (Kd.R_ne HO_5.out BK105.out (by decide)); replace hx110_0 := (cell_far (p := ⟨gb105, 0, none⟩) (by first | (rw [add_block]; exact hn110_0) | (show (Addr.add _ _).block ≠ _; rw [add_block]; exact hn110_0) | exact hn110_0) (.int .i8 ((rd_T68 l0_1 x6_1).f0))).trans hx110_0; replace hx110_0 := (cell_far (p := ⟨gb105, 1, none⟩) (by first | (rw [add_block]; exact hn110_1) | (show (Addr.add _ _).block ≠ _; rw [add_block]; exact hn110_1) | exact hn110_1) (.int .i16 ((rd_T68 l0_1 x6_1).f1))).trans hx110_0; replace hx110_0 := (cell_far (p := ⟨gb105, 2, none⟩) (by first | (rw [add_block]; exact hn110_2) | (show (Addr.add _ _).block ≠ _; rw [add_block]; exact hn110_2) | exact hn110_2) (.int .i16 ((rd_T68 l0_1 x6_1).f2))).trans hx110_0; (try have hy110_0 := fun (n_ : Nat) => (show (((((w24.drewN n_).setCell ⟨gb105, 0, none⟩ (.int .i8 ((rd_T68 l0_1 x6_1).f0))).setCell ⟨gb105, 1, none⟩ (.int .i16 ((rd_T68 l0_1 x6_1).f1))).setCell ⟨gb105, 2, none⟩ (.int .i16 ((rd_T68 l0_1 x6_1).f2)))).cell? _ = some _ from hx110_0)); clear hn110_0; clear hn110_1; clear hn110_2; replace p110 := eq_true p110; replace q110 := eq_true q110) | ((with_reducible refine gate_builtin (b := .append) (xs := #[.tmp 64, .tmp 66]) rfl ?_); at_builtin; refine Kd.R_append Kd.bool (w0 := w) w.heap.size rfl (.tmp 64) (.tmp 66) 81 4 (.bool false) 1 rfl Try.underlying81 info4 rfl (by decide) (by omega) (.slice (some ad109) x5_1.length co27) x5_1 ((rdOf false x5_1 ((rd_T68 l0_1 x6_1).f1)) != (rdOf false x5_1 ((rd_T68 l0_1 x6_1).f2))) [.bool ((rdOf false x5_1 ((rd_T68 l0_1 x6_1).f1)) != (rdOf false x5_1 ((rd_T68 l0_1 x6_1).f2)))] (fun _ => True) (fun _ => False) rfl (by first | (go_simp; done) | (go_simp; rfl)) ?aP (fun _ hk => hk.elim) ?aF ?aO ?aB ?aS ?aL ?_; (case aP => exact rfl); (case aB => exact (by repeat (first | (with_reducible first | exact HB.out | apply below_alloc | apply pw_below_drewN | apply below_drew1 | refine below_set ?_ GE0.out | refine below_set ?_ GE105.out) | exact HB.out))); (case aF => exact (fun _ _ => trivial)); (case aO => exact (by (with_reducible repeat (first | apply Kd.R_alloc | apply Kd.R_drewN | apply Kd.R_drew)); exact Kd.R_mono (Kd.R_far (p := ⟨gb105, 2, none⟩) (Kd.R_far (p := ⟨gb105, 1, none⟩) (Kd.R_far (p := ⟨gb105, 0, none⟩) (Kd.R_types HO_5.out BK105.out (by decide)) (fun _ hk => hk.2) (.int .i8 ((rd_T68 l0_1 x6_1).f0))) (fun _ hk => hk.2) (.int .i16 ((rd_T68 l0_1 x6_1).f1))) (fun _ hk => hk.2) (.int .i16 ((rd_T68 l0_1 x6_1).f2))) (fun _ hk => trivial))); (case aS => exact (below_size (by repeat (first | (with_reducible first | exact HB.out | apply below_alloc | apply pw_below_drewN | apply below_drew1 | refine below_set ?_ GE0.out | refine below_set ?_ GE105.out) | exact HB.out)))); (case aL => have := LMc22.out; omega); intro v112 w28 ho hb hg hat; rw [← Ny111.out] at ho; have n0_ := Aside0.mk (blk_grown (g := gro0) (o := .cells #[.int .i8 a0_0, .slice (some ad104) l0_1.length c0_1, .slice A0_2 l0_2.length c0_2] 30 (0, 0)) (by (with_reducible repeat (first | refine blk_drewN ?_ _ | refine blk_drew ?_ | refine blk_alloc ?_ _)); refine blk_far ?_ NB0_105.out _; (with_reducible repeat (first | refine blk_drewN ?_ _ | refine blk_drew ?_ | refine blk_alloc ?_ _)); refine blk_far ?_ NB0_105.out _; (with_reducible repeat (first | refine blk_drewN ?_ _ | refine blk_drew ?_ | refine blk_alloc ?_ _)); refine blk_far ?_ NB0_105.out _; (with_reducible repeat (first | refine blk_drewN ?_ _ | refine blk_drew ?_ | refine blk_alloc ?_ _)); exact BK0.out) hg (Kd.R_ne HO_5.out BK0.out (by decide))); have n1_ := Aside0.mk (blk_grown (g := gb105) (o := .cells #[.int .i8 ((rd_T68 l0_1 x6_1).f0), .int .i16 ((rd_T68 l0_1 x6_1).f1), .int .i16 ((rd_T68 l0_1 x6_1).f2)] 68 (0, 0)) (by (with_reducible repeat (first | refine blk_drewN ?_ _ | refine blk_drew ?_ | refine blk_alloc ?_ _)); refine blk_put (cs := #[.int .i8 ((rd_T68 l0_1 x6_1).f0), .int .i16 ((rd_T68 l0_1 x6_1).f1), .int .i16 0]) ?_ 2 _ rfl; (with_reducible repeat (first | refine blk_drewN ?_ _ | refine blk_drew ?_ | refine blk_alloc ?_ _)); refine blk_put (cs := #[.int .i8 ((rd_T68 l0_1 x6_1).f0), .int .i16 0, .int .i16 0]) ?_ 1 _ rfl; (with_reducible repeat (first | refine blk_drewN ?_ _ | refine blk_drew ?_ | refine blk_alloc ?_ _)); refine blk_put (cs := #[.int .i8 0, .int .i16 0, .int .i16 0]) ?_ 0 _ rfl; (with_reducible repeat (first | refine blk_drewN ?_ _ | refine blk_drew ?_ | refine blk_alloc ?_ _)); exact BK105.out) hg (Kd.R_ne HO_5.out BK105.out (by decide))); have n2_ := Aside0.mk (hb); have n3_ := Aside0.mk (ho); clear BK0; clear BK105; clear HB; clear HO_5; have BK0 := n0_; have BK105 := n1_; have HB := n2_; have HO113 := n3_; clear n0_ n1_ n2_ n3_; clear ho hb hg hat)))
                        go_roundg k1
                        case measure => have := HK1.out; omega
                        case rel => exact ⟨(y111), (wrap64 (x6_1 + 1)), (by first | rfl | (simp; done) | (simp [*]; done)), H', ⟨by have := HK1.out; omega⟩, ⟨by (with_reducible repeat (first | apply Kd.R_alloc | apply Kd.R_drewN | apply Kd.R_drew)); exact HO113.out⟩, ⟨by (with_reducible repeat (first | refine blk_drewN ?_ _ | refine blk_drew ?_ | refine blk_alloc ?_ _)); exact BK0.out⟩, ⟨by repeat (first | (with_reducible first | exact HB.out | apply below_alloc | apply pw_below_drewN | apply below_drew1 | refine below_set ?_ GE0.out | refine below_set ?_ GE105.out) | exact HB.out)⟩⟩
                      · rw [if_neg c22] at H
                        exact absurd H (by simp)
                    · rw [if_neg c21] at H
                      exact absurd H (by simp)
                  · rw [if_neg c20] at H
                    exact absurd H (by simp)
                · rw [if_neg c19] at H
                  exact absurd H (by simp)
              · rw [if_neg c18] at H
                exact absurd H (by simp)
            · rw [if_neg c17] at H
              have c17b0 : (((rd_T68 l0_1 x6_1).f0) == 2) = false := beq_eq_false_iff_ne.mpr c17
              have c17b1 : (((rd_T68 l0_1 x6_1).f0) != 2) = true := bne_iff_ne.mpr c17
              by_cases c29 : ((rd_T68 l0_1 x6_1).f0) = 3
              · rw [if_pos c29] at H
                have c29b0 : (((rd_T68 l0_1 x6_1).f0) == 3) = true := beq_iff_eq.mpr c29
                have c29b1 : (((rd_T68 l0_1 x6_1).f0) != 3) = false := bne_eq_false_iff_eq.mpr c29
                clear c29
                by_cases c30 : 0 ≤ ((rd_T68 l0_1 x6_1).f1)
                · rw [if_pos c30] at H
                  have c30b0 : decide (0 ≤ ((rd_T68 l0_1 x6_1).f1)) = true := decide_eq_true c30
                  clear c30
                  by_cases c31 : ((rd_T68 l0_1 x6_1).f1) < (x5_1.length : Int)
                  · rw [if_pos c31] at H
                    have c31b0 : decide (((rd_T68 l0_1 x6_1).f1) < (x5_1.length : Int)) = true := decide_eq_true c31
                    clear c31
                    obtain ⟨bq32, hbq32⟩ : ∃ b_ : Bool, b_ = (rdOf false x5_1 ((rd_T68 l0_1 x6_1).f1)) := ⟨_, rfl⟩
                    replace H : (if bq32 = true then (if 0 ≤ ((rd_T68 l0_1 x6_1).f2) then (if ((rd_T68 l0_1 x6_1).f2) < (x5_1.length : Int) then (if x5_1.length < 140737488355328 then (spec_l07Values.l0 k1 a1 (x5_1 ++ [rdOf false x5_1 ((rd_T68 l0_1 x6_1).f2)]) (wrap64 (x6_1 + 1)) a0_0 l0_1 l0_2) else (none)) else (none)) else (none)) else (if x5_1.length < 140737488355328 then (spec_l07Values.l0 k1 a1 (x5_1 ++ [false]) (wrap64 (x6_1 + 1)) a0_0 l0_1 l0_2) else (none))) = some r := by rw [← hbq32] at H; exact H
                    have Nbq32 := Aside0.mk hbq32
                    clear hbq32
                    by_cases c33 : bq32 = true
                    · subst c33
                      have H1 : (if 0 ≤ ((rd_T68 l0_1 x6_1).f2) then (if ((rd_T68 l0_1 x6_1).f2) < (x5_1.length : Int) then (if x5_1.length < 140737488355328 then (spec_l07Values.l0 k1 a1 (x5_1 ++ [rdOf false x5_1 ((rd_T68 l0_1 x6_1).f2)]) (wrap64 (x6_1 + 1)) a0_0 l0_1 l0_2) else (none)) else (none)) else (none)) = some r := by rw [if_pos rfl] at H; exact H
                      clear H
                      have H := H1
                      clear H1
                      by_cases c34 : 0 ≤ ((rd_T68 l0_1 x6_1).f2)
                      · rw [if_pos c34] at H
                        have c34b0 : decide (0 ≤ ((rd_T68 l0_1 x6_1).f2)) = true := decide_eq_true c34
                        clear c34
                        by_cases c35 : ((rd_T68 l0_1 x6_1).f2) < (x5_1.length : Int)
                        · rw [if_pos c35] at H
                          have c35b0 : decide (((rd_T68 l0_1 x6_1).f2) < (x5_1.length : Int)) = true := decide_eq_true c35
                          clear c35
                          by_cases c36 : x5_1.length < 140737488355328
                          · rw [if_pos c36] at H
                            have LMc36 := Aside0.mk c36
                            clear c36
                            obtain ⟨y116, hy116⟩ : ∃ y_ : List Bool, y_ = (x5_1 ++ [rdOf false x5_1 ((rd_T68 l0_1 x6_1).f2)]) := ⟨_, rfl⟩
                            replace H : (spec_l07Values.l0 k1 a1 y116 (wrap64 (x6_1 + 1)) a0_0 l0_1 l0_2) = some r := by first | (rw [hy116]; with_reducible exact H) | (have H2_ := (Option.bind_some _ _).symm.trans H; rw [hy116]; with_reducible exact H2_) | (have H2_ := (Option.bind_some _ _).symm.trans H; with_reducible exact H2_) | with_reducible exact H | (rw [hy116]; exact H) | exact H
                            have Ny116 := Aside0.mk hy116
                            clear hy116
                            have H' := Aside0.mk H
                            clear H
                            have hcz37_0 : wr.cell? ⟨gro0, 0, none⟩ = some (.int .i8 a0_0) := (blk_cell BK0.out 0).trans rfl
                            have hcz37_1 : wr.cell? ⟨gro0, 1, none⟩ = some (.slice A0_1 l0_1.length c0_1) := (blk_cell BK0.out 1).trans rfl
                            have hcz37_2 : wr.cell? ⟨gro0, 2, none⟩ = some (.slice A0_2 l0_2.length c0_2) := (blk_cell BK0.out 2).trans rfl
                            have hfz37_0 := blk_frozen BK0.out 0
                            have hfz37_1 := blk_frozen BK0.out 1
                            have hfz37_2 := blk_frozen BK0.out 2
                            have p104 : 0 ≤ (x6_1 : Int) := of_decide_eq_true (by first | (with_reducible assumption) | assumption)
                            have q104 : x6_1 < (l0_1.length : Int) := of_decide_eq_true (by first | (with_reducible assumption) | assumption)
                            obtain ⟨ad104, e104, hx104_0, hx104_1, hx104_2⟩ := at_T68 HR0_1.out x6_1 p104 q104
                            cases e104
                            replace hx104_0 := (HB.out.cell (World.block_lt_of_cell? w _ hx104_0)).trans hx104_0
                            replace hx104_1 := (HB.out.cell (World.block_lt_of_cell? w _ hx104_1)).trans hx104_1
                            replace hx104_2 := (HB.out.cell (World.block_lt_of_cell? w _ hx104_2)).trans hx104_2
                            replace p104 := eq_true p104
                            replace q104 := eq_true q104
                            go_wp2_with (first | ((with_reducible refine gate_dst (N := 7) rfl ?_); refine box_event ?hg (N := 7) ?hd (cs := #[.int .i8 0, .int .i16 0, .int .i16 0]) (t := 68) ?hr ?_; (case hd => rfl); (case hg => rfl); (case hr => first | (go_simp; done) | (go_simp; rfl)); intro gb105 hg w38 hbox hb; have n0_ := Aside0.mk (Kd.R_below (by (with_reducible repeat (first | apply Kd.R_alloc | apply Kd.R_drewN | apply Kd.R_drew)); exact HO_5.out) hb); have n1_ := Aside0.mk (blk_below (g := gro0) (o := .cells #[.int .i8 a0_0, .slice (some ad104) l0_1.length c0_1, .slice A0_2 l0_2.length c0_2] 30 (0, 0)) (by (with_reducible repeat (first | refine blk_drewN ?_ _ | refine blk_drew ?_ | refine blk_alloc ?_ _)); exact BK0.out) hb); have n2_ := Aside0.mk (below_step (by repeat (first | (with_reducible first | exact HB.out | apply below_alloc | apply pw_below_drewN | apply below_drew1 | refine below_set ?_ GE0.out) | exact HB.out)) hb); have n3_ := Aside0.mk (hbox); have n4_ := Aside0.mk ((by rw [hg]; exact (below_size (by repeat (first | (with_reducible first | exact HB.out | apply below_alloc | apply pw_below_drewN | apply below_drew1 | refine below_set ?_ GE0.out) | exact HB.out))) : w.heap.size ≤ gb105)); have n5_ := Aside0.mk ((by rw [hg]; exact (below_size (by repeat (first | (with_reducible first | exact HB.out | apply below_alloc | apply pw_below_drewN | apply below_drew1 | refine below_set ?_ GE0.out) | exact HB.out))) : w.heap.size ≤ gb105)); have n6_ := Aside0.mk ((by rw [hg]; exact Nat.ne_of_lt (blk_lt (g := gro0) (o := .cells #[.int .i8 a0_0, .slice (some ad104) l0_1.length c0_1, .slice A0_2 l0_2.length c0_2] 30 (0, 0)) (by (with_reducible repeat (first | refine blk_drewN ?_ _ | refine blk_drew ?_ | refine blk_alloc ?_ _)); exact BK0.out)) : gro0 ≠ gb105)); have n7_ := Aside0.mk ((by rw [hg]; exact Nat.ne_of_gt (blk_lt (g := gro0) (o := .cells #[.int .i8 a0_0, .slice (some ad104) l0_1.length c0_1, .slice A0_2 l0_2.length c0_2] 30 (0, 0)) (by (with_reducible repeat (first | refine blk_drewN ?_ _ | refine blk_drew ?_ | refine blk_alloc ?_ _)); exact BK0.out)) : gb105 ≠ gro0)); clear HO_5; clear BK0; clear HB; have HO_5 := n0_; have BK0 := n1_; have HB := n2_; have BK105 := n3_; have GW105 := n4_; have GE105 := n5_; have NB0_105 := n6_; have NB105_0 := n7_; clear n0_ n1_ n2_ n3_ n4_ n5_ n6_ n7_; clear hb hbox hg; have hnb39 := NB105_0.out; have hnc39 := NB0_105.out; have hcz40_0 : w38.cell? ⟨gb105, 0, none⟩ = some (.int .i8 0) := (blk_cell BK105.out 0).trans rfl; have hcz40_1 : w38.cell? ⟨gb105, 1, none⟩ = some (.int .i16 0) := (blk_cell BK105.out 1).trans rfl; have hcz40_2 : w38.cell? ⟨gb105, 2, none⟩ = some (.int .i16 0) := (blk_cell BK105.out 2).trans rfl; have hfz40_0 := blk_frozen BK105.out 0; have hfz40_1 := blk_frozen BK105.out 1; have hfz40_2 := blk_frozen BK105.out 2; obtain ⟨Ao41, co41, eo41⟩ := Kd.R_slice HO_5.out; subst eo41; have p114 : 0 ≤ (((rd_T68 l0_1 x6_1).f1) : Int) := of_decide_eq_true (by first | (with_reducible assumption) | assumption); have q114 : ((rd_T68 l0_1 x6_1).f1) < (x5_1.length : Int) := of_decide_eq_true (by first | (with_reducible assumption) | assumption); obtain ⟨ad114, e114, hx114_0⟩ := Kd.at_bool (Kd.R_reads' HO_5.out).2.2 ((rd_T68 l0_1 x6_1).f1) p114 q114; (try rw [← Nbq32.out] at hx114_0); cases e114; have hn114_0 : ad114.block ≠ gb105 := Kd.own_blk (Kd.R_ne HO_5.out BK105.out (by decide)); have hn114_1 : ad114.block ≠ gb105 := Kd.own_blk (Kd.R_ne HO_5.out BK105.out (by decide)); have hn114_2 : ad114.block ≠ gb105 := Kd.own_blk (Kd.R_ne HO_5.out BK105.out (by decide)); replace hx114_0 := (cell_far (p := ⟨gb105, 0, none⟩) (by first | (rw [add_block]; exact hn114_0) | (show (Addr.add _ _).block ≠ _; rw [add_block]; exact hn114_0) | exact hn114_0) (.int .i8 ((rd_T68 l0_1 x6_1).f0))).trans hx114_0; replace hx114_0 := (cell_far (p := ⟨gb105, 1, none⟩) (by first | (rw [add_block]; exact hn114_1) | (show (Addr.add _ _).block ≠ _; rw [add_block]; exact hn114_1) | exact hn114_1) (.int .i16 ((rd_T68 l0_1 x6_1).f1))).trans hx114_0; replace hx114_0 := (cell_far (p := ⟨gb105, 2, none⟩) (by first | (rw [add_block]; exact hn114_2) | (show (Addr.add _ _).block ≠ _; rw [add_block]; exact hn114_2) | exact hn114_2) (.int .i16 ((rd_T68 l0_1 x6_1).f2))).trans hx114_0; (try have hy114_0 := fun (n_ : Nat) => (show (((((w38.drewN n_).setCell ⟨gb105, 0, none⟩ (.int .i8 ((rd_T68 l0_1 x6_1).f0))).setCell ⟨gb105, 1, none⟩ (.int .i16 ((rd_T68 l0_1 x6_1).f1))).setCell ⟨gb105, 2, none⟩ (.int .i16 ((rd_T68 l0_1 x6_1).f2)))).cell? _ = some _ from hx114_0)); clear hn114_0; clear hn114_1; clear hn114_2; replace p114 := eq_true p114; replace q114 := eq_true q114; have p115 : 0 ≤ (((rd_T68 l0_1 x6_1).f2) : Int) := of_decide_eq_true (by first | (with_reducible assumption) | assumption); have q115 : ((rd_T68 l0_1 x6_1).f2) < (x5_1.length : Int) := of_decide_eq_true (by first | (with_reducible assumption) | assumption); obtain ⟨ad115, e115, hx115_0⟩ := Kd.at_bool (Kd.R_reads' HO_5.out).2.2 ((rd_T68 l0_1 x6_1).f2) p115 q115; (try rw [← Nbq32.out] at hx115_0); obtain rfl : ad114 = ad115 := (by injection e115); have hn115_0 : ad114.block ≠ gb105 := Kd.own_blk (Kd.R_ne HO_5.out BK105.out (by decide)); have hn115_1 : ad114.block ≠ gb105 := Kd.own_blk (Kd.R_ne HO_5.out BK105.out (by decide)); have hn115_2 : ad114.block ≠ gb105 := Kd.own_blk (Kd.R_ne HO_5.out BK105.out (by decide)); replace hx115_0 := (cell_far (p := ⟨gb105, 0, none⟩) (by first | (rw [add_block]; exact hn115_0) | (show (Addr.add _ _).block ≠ _; rw [add_block]; exact hn115_0) | exact hn115_0) (.int .i8 ((rd_T68 l0_1 x6_1).f0))).trans hx115_0; replace hx115_0 := (cell_far (p := ⟨gb105, 1, none⟩) (by first | (rw [add_block]; exact hn115_1) | (show (Addr.add _ _).block ≠ _; rw [add_block]; exact hn115_1) | exact hn115_1) (.int .i16 ((rd_T68 l0_1 x6_1).f1))).trans hx115_0; replace hx115_0 := (cell_far (p := ⟨gb105, 2, none⟩) (by first | (rw [add_block]; exact hn115_2) | (show (Addr.add _ _).block ≠ _; rw [add_block]; exact hn115_2) | exact hn115_2) (.int .i16 ((rd_T68 l0_1 x6_1).f2))).trans hx115_0; (try have hy115_0 := fun (n_ : Nat) => (show (((((w38.drewN n_).setCell ⟨gb105, 0, none⟩ (.int .i8 ((rd_T68 l0_1 x6_1).f0))).setCell ⟨gb105, 1, none⟩ (.int .i16 ((rd_T68 l0_1 x6_1).f1))).setCell ⟨gb105, 2, none⟩ (.int .i16 ((rd_T68 l0_1 x6_1).f2)))).cell? _ = some _ from hx115_0)); clear hn115_0; clear hn115_1; clear hn115_2; replace p115 := eq_true p115; replace q115 := eq_true q115) | ((with_reducible refine gate_builtin (b := .append) (xs := #[.tmp 64, .tmp 66]) rfl ?_); at_builtin; refine Kd.R_append Kd.bool (w0 := w) w.heap.size rfl (.tmp 64) (.tmp 66) 81 4 (.bool false) 1 rfl Try.underlying81 info4 rfl (by decide) (by omega) (.slice (some ad114) x5_1.length co41) x5_1 (rdOf false x5_1 ((rd_T68 l0_1 x6_1).f2)) [.bool (rdOf false x5_1 ((rd_T68 l0_1 x6_1).f2))] (fun _ => True) (fun _ => False) rfl (by first | (go_simp; done) | (go_simp; rfl)) ?aP (fun _ hk => hk.elim) ?aF ?aO ?aB ?aS ?aL ?_; (case aP => exact rfl); (case aB => exact (by repeat (first | (with_reducible first | exact HB.out | apply below_alloc | apply pw_below_drewN | apply below_drew1 | refine below_set ?_ GE0.out | refine below_set ?_ GE105.out) | exact HB.out))); (case aF => exact (fun _ _ => trivial)); (case aO => exact (by (with_reducible repeat (first | apply Kd.R_alloc | apply Kd.R_drewN | apply Kd.R_drew)); exact Kd.R_mono (Kd.R_far (p := ⟨gb105, 2, none⟩) (Kd.R_far (p := ⟨gb105, 1, none⟩) (Kd.R_far (p := ⟨gb105, 0, none⟩) (Kd.R_types HO_5.out BK105.out (by decide)) (fun _ hk => hk.2) (.int .i8 ((rd_T68 l0_1 x6_1).f0))) (fun _ hk => hk.2) (.int .i16 ((rd_T68 l0_1 x6_1).f1))) (fun _ hk => hk.2) (.int .i16 ((rd_T68 l0_1 x6_1).f2))) (fun _ hk => trivial))); (case aS => exact (below_size (by repeat (first | (with_reducible first | exact HB.out | apply below_alloc | apply pw_below_drewN | apply below_drew1 | refine below_set ?_ GE0.out | refine below_set ?_ GE105.out) | exact HB.out)))); (case aL => have := LMc36.out; omega); intro v117 w42 ho hb hg hat; rw [← Ny116.out] at ho; have n0_ := Aside0.mk (blk_grown (g := gro0) (o := .cells #[.int .i8 a0_0, .slice (some ad104) l0_1.length c0_1, .slice A0_2 l0_2.length c0_2] 30 (0, 0)) (by (with_reducible repeat (first | refine blk_drewN ?_ _ | refine blk_drew ?_ | refine blk_alloc ?_ _)); refine blk_far ?_ NB0_105.out _; (with_reducible repeat (first | refine blk_drewN ?_ _ | refine blk_drew ?_ | refine blk_alloc ?_ _)); refine blk_far ?_ NB0_105.out _; (with_reducible repeat (first | refine blk_drewN ?_ _ | refine blk_drew ?_ | refine blk_alloc ?_ _)); refine blk_far ?_ NB0_105.out _; (with_reducible repeat (first | refine blk_drewN ?_ _ | refine blk_drew ?_ | refine blk_alloc ?_ _)); exact BK0.out) hg (Kd.R_ne HO_5.out BK0.out (by decide))); have n1_ := Aside0.mk (blk_grown (g := gb105) (o := .cells #[.int .i8 ((rd_T68 l0_1 x6_1).f0), .int .i16 ((rd_T68 l0_1 x6_1).f1), .int .i16 ((rd_T68 l0_1 x6_1).f2)] 68 (0, 0)) (by (with_reducible repeat (first | refine blk_drewN ?_ _ | refine blk_drew ?_ | refine blk_alloc ?_ _)); refine blk_put (cs := #[.int .i8 ((rd_T68 l0_1 x6_1).f0), .int .i16 ((rd_T68 l0_1 x6_1).f1), .int .i16 0]) ?_ 2 _ rfl; (with_reducible repeat (first | refine blk_drewN ?_ _ | refine blk_drew ?_ | refine blk_alloc ?_ _)); refine blk_put (cs := #[.int .i8 ((rd_T68 l0_1 x6_1).f0), .int .i16 0, .int .i16 0]) ?_ 1 _ rfl; (with_reducible repeat (first | refine blk_drewN ?_ _ | refine blk_drew ?_ | refine blk_alloc ?_ _)); refine blk_put (cs := #[.int .i8 0, .int .i16 0, .int .i16 0]) ?_ 0 _ rfl; (with_reducible repeat (first | refine blk_drewN ?_ _ | refine blk_drew ?_ | refine blk_alloc ?_ _)); exact BK105.out) hg (Kd.R_ne HO_5.out BK105.out (by decide))); have n2_ := Aside0.mk (hb); have n3_ := Aside0.mk (ho); clear BK0; clear BK105; clear HB; clear HO_5; have BK0 := n0_; have BK105 := n1_; have HB := n2_; have HO118 := n3_; clear n0_ n1_ n2_ n3_; clear ho hb hg hat))
                            repeat (go_quiet (first | ((with_reducible refine gate_dst (N := 7) rfl ?_); refine box_event ?hg (N := 7) ?hd (cs := #[.int .i8 0, .int .i16 0, .int .i16 0]) (t := 68) ?hr ?_; (case hd => rfl); (case hg => rfl); (case hr => first | (go_simp; done) | (go_simp; rfl)); intro gb105 hg w38 hbox hb; have n0_ := Aside0.mk (Kd.R_below (by (with_reducible repeat (first | apply Kd.R_alloc | apply Kd.R_drewN | apply Kd.R_drew)); exact HO_5.out) hb); have n1_ := Aside0.mk (blk_below (g := gro0) (o := .cells #[.int .i8 a0_0, .slice (some ad104) l0_1.length c0_1, .slice A0_2 l0_2.length c0_2] 30 (0, 0)) (by (with_reducible repeat (first | refine blk_drewN ?_ _ | refine blk_drew ?_ | refine blk_alloc ?_ _)); exact BK0.out) hb); have n2_ := Aside0.mk (below_step (by repeat (first | (with_reducible first | exact HB.out | apply below_alloc | apply pw_below_drewN | apply below_drew1 | refine below_set ?_ GE0.out) | exact HB.out)) hb); have n3_ := Aside0.mk (hbox); have n4_ := Aside0.mk ((by rw [hg]; exact (below_size (by repeat (first | (with_reducible first | exact HB.out | apply below_alloc | apply pw_below_drewN | apply below_drew1 | refine below_set ?_ GE0.out) | exact HB.out))) : w.heap.size ≤ gb105)); have n5_ := Aside0.mk ((by rw [hg]; exact (below_size (by repeat (first | (with_reducible first | exact HB.out | apply below_alloc | apply pw_below_drewN | apply below_drew1 | refine below_set ?_ GE0.out) | exact HB.out))) : w.heap.size ≤ gb105)); have n6_ := Aside0.mk ((by rw [hg]; exact Nat.ne_of_lt (blk_lt (g := gro0) (o := .cells #[.int .i8 a0_0, .slice (some ad104) l0_1.length c0_1, .slice A0_2 l0_2.length c0_2] 30 (0, 0)) (by (with_reducible repeat (first | refine blk_drewN ?_ _ | refine blk_drew ?_ | refine blk_alloc ?_ _)); exact BK0.out)) : gro0 ≠ gb105)); have n7_ := Aside0.mk ((by rw [hg]; exact Nat.ne_of_gt (blk_lt (g := gro0) (o := .cells #[.int .i8 a0_0, .slice (some ad104) l0_1.length c0_1, .slice A0_2 l0_2.length c0_2] 30 (0, 0)) (by (with_reducible repeat (first | refine blk_drewN ?_ _ | refine blk_drew ?_ | refine blk_alloc ?_ _)); exact BK0.out)) : gb105 ≠ gro0)); clear HO_5; clear BK0; clear HB; have HO_5 := n0_; have BK0 := n1_; have HB := n2_; have BK105 := n3_; have GW105 := n4_; have GE105 := n5_; have NB0_105 := n6_; have NB105_0 := n7_; clear n0_ n1_ n2_ n3_ n4_ n5_ n6_ n7_; clear hb hbox hg; have hnb39 := NB105_0.out; have hnc39 := NB0_105.out; have hcz40_0 : w38.cell? ⟨gb105, 0, none⟩ = some (.int .i8 0) := (blk_cell BK105.out 0).trans rfl; have hcz40_1 : w38.cell? ⟨gb105, 1, none⟩ = some (.int .i16 0) := (blk_cell BK105.out 1).trans rfl; have hcz40_2 : w38.cell? ⟨gb105, 2, none⟩ = some (.int .i16 0) := (blk_cell BK105.out 2).trans rfl; have hfz40_0 := blk_frozen BK105.out 0; have hfz40_1 := blk_frozen BK105.out 1; have hfz40_2 := blk_frozen BK105.out 2; obtain ⟨Ao41, co41, eo41⟩ := Kd.R_slice HO_5.out; subst eo41; have p114 : 0 ≤ (((rd_T68 l0_1 x6_1).f1) : Int) := of_decide_eq_true (by first | (with_reducible assumption) | assumption); have q114 : ((rd_T68 l0_1 x6_1).f1) < (x5_1.length : Int) := of_decide_eq_true (by first | (with_reducible assumption) | assumption); obtain ⟨ad114, e114, hx114_0⟩ := Kd.at_bool (Kd.R_reads' HO_5.out).2.2 ((rd_T68 l0_1 x6_1).f1) p114 q114; (try rw [← Nbq32.out] at hx114_0); cases e114; have hn114_0 : ad114.block ≠ gb105 := Kd.own_blk (Kd.R_ne HO_5.out BK105.out (by decide)); have hn114_1 : ad114.block ≠ gb105 := Kd.own_blk (Kd.R_ne HO_5.out BK105.out (by decide)); have hn114_2 : ad114.block ≠ gb105 := Kd.own_blk (Kd.R_ne HO_5.out BK105.out (by decide)); replace hx114_0 := (cell_far (p := ⟨gb105, 0, none⟩) (by first | (rw [add_block]; exact hn114_0) | (show (Addr.add _ _).block ≠ _; rw [add_block]; exact hn114_0) | exact hn114_0) (.int .i8 ((rd_T68 l0_1 x6_1).f0))).trans hx114_0; replace hx114_0 := (cell_far (p := ⟨gb105, 1, none⟩) (by first | (rw [add_block]; exact hn114_1) | (show (Addr.add _ _).block ≠ _; rw [add_block]; exact hn114_1) | exact hn114_1) (.int .i16 ((rd_T68 l0_1 x6_1).f1))).trans hx114_0; replace hx114_0 := (cell_far (p := ⟨gb105, 2, none⟩) (by first | (rw [add_block]; exact hn114_2) | (show (Addr.add _ _).block ≠ _; rw [add_block]; exact hn114_2) | exact hn114_2) (.int .i16 ((rd_T68 l0_1 x6_1).f2))).trans hx114_0; (try have hy114_0 := fun (n_ : Nat) => (show (((((w38.drewN n_).setCell ⟨gb105, 0, none⟩ (.int .i8 ((rd_T68 l0_1 x6_1).f0))).setCell ⟨gb105, 1, none⟩ (.int .i16 ((rd_T68 l0_1 x6_1).f1))).setCell ⟨gb105, 2, none⟩ (.int .i16 ((rd_T68 l0_1 x6_1).f2)))).cell? _ = some _ from hx114_0)); clear hn114_0; clear hn114_1; clear hn114_2; replace p114 := eq_true p114; replace q114 := eq_true q114; have p115 : 0 ≤ (((rd_T68 l0_1 x6_1).f2) : Int) := of_decide_eq_true (by first | (with_reducible assumption) | assumption); have q115 : ((rd_T68 l0_1 x6_1).f2) < (x5_1.length : Int) := of_decide_eq_true (by first | (with_reducible assumption) | assumption); obtain ⟨ad115, e115, hx115_0⟩ := Kd.at_bool (Kd.R_reads' HO_5.out).2.2 ((rd_T68 l0_1 x6_1).f2) p115 q115; (try rw [← Nbq32.out] at hx115_0); obtain rfl : ad114 = ad115 := (by injection e115); have hn115_0 : ad114.block ≠ gb105 := Kd.own_blk (Kd.R_ne HO_5.out BK105.out (by decide)); have hn115_1 : ad114.block ≠ gb105 := Kd.own_blk (Kd.R_ne HO_5.out BK105.out (by decide)); have hn115_2 : ad114.block ≠ gb105 := Kd.own_blk (Kd.R_ne HO_5.out BK105.out (by decide)); replace hx115_0 := (cell_far (p := ⟨gb105, 0, none⟩) (by first | (rw [add_block]; exact hn115_0) | (show (Addr.add _ _).block ≠ _; rw [add_block]; exact hn115_0) | exact hn115_0) (.int .i8 ((rd_T68 l0_1 x6_1).f0))).trans hx115_0; replace hx115_0 := (cell_far (p := ⟨gb105, 1, none⟩) (by first | (rw [add_block]; exact hn115_1) | (show (Addr.add _ _).block ≠ _; rw [add_block]; exact hn115_1) | exact hn115_1) (.int .i16 ((rd_T68 l0_1 x6_1).f1))).trans hx115_0; replace hx115_0 := (cell_far (p := ⟨gb105, 2, none⟩) (by first | (rw [add_block]; exact hn115_2) | (show (Addr.add _ _).block ≠ _; rw [add_block]; exact hn115_2) | exact hn115_2) (.int .i16 ((rd_T68 l0_1 x6_1).f2))).trans hx115_0; (try have hy115_0 := fun (n_ : Nat) => (show (((((w38.drewN n_).setCell ⟨gb105, 0, none⟩ (.int .i8 ((rd_T68 l0_1 x6_1).f0))).setCell ⟨gb105, 1, none⟩ (.int .i16 ((rd_T68 l0_1 x6_1).f1))).setCell ⟨gb105, 2, none⟩ (.int .i16 ((rd_T68 l0_1 x6_1).f2)))).cell? _ = some _ from hx115_0)); clear hn115_0; clear hn115_1; clear hn115_2; replace p115 := eq_true p115; replace q115 := eq_true q115) | ((with_reducible refine gate_builtin (b := .append) (xs := #[.tmp 64, .tmp 66]) rfl ?_); at_builtin; refine Kd.R_append Kd.bool (w0 := w) w.heap.size rfl (.tmp 64) (.tmp 66) 81 4 (.bool false) 1 rfl Try.underlying81 info4 rfl (by decide) (by omega) (.slice (some ad114) x5_1.length co41) x5_1 (rdOf false x5_1 ((rd_T68 l0_1 x6_1).f2)) [.bool (rdOf false x5_1 ((rd_T68 l0_1 x6_1).f2))] (fun _ => True) (fun _ => False) rfl (by first | (go_simp; done) | (go_simp; rfl)) ?aP (fun _ hk => hk.elim) ?aF ?aO ?aB ?aS ?aL ?_; (case aP => exact rfl); (case aB => exact (by repeat (first | (with_reducible first | exact HB.out | apply below_alloc | apply pw_below_drewN | apply below_drew1 | refine below_set ?_ GE0.out | refine below_set ?_ GE105.out) | exact HB.out))); (case aF => exact (fun _ _ => trivial)); (case aO => exact (by (with_reducible repeat (first | apply Kd.R_alloc | apply Kd.R_drewN | apply Kd.R_drew)); exact Kd.R_mono (Kd.R_far (p := ⟨gb105, 2, none⟩) (Kd.R_far (p := ⟨gb105, 1, none⟩) (Kd.R_far (p := ⟨gb105, 0, none⟩) (Kd.R_types HO_5.out BK105.out (by decide)) (fun _ hk => hk.2) (.int .i8 ((rd_T68 l0_1 x6_1).f0))) (fun _ hk => hk.2) (.int .i16 ((rd_T68 l0_1 x6_1).f1))) (fun _ hk => hk.2) (.int .i16 ((rd_T68 l0_1 x6_1).f2))) (fun _ hk => trivial))); (case aS => exact (below_size (by repeat (first | (with_reducible first | exact HB.out | apply below_alloc | apply pw_below_drewN | apply below_drew1 | refine below_set ?_ GE0.out | refine below_set ?_ GE105.out) | exact HB.out)))); (case aL => have := LMc36.out; omega); intro v117 w42 ho hb hg hat; rw [← Ny116.out] at ho; have n0_ := Aside0.mk (blk_grown (g := gro0) (o := .cells #[.int .i8 a0_0, .slice (some ad104) l0_1.length c0_1, .slice A0_2 l0_2.length c0_2] 30 (0, 0)) (by (with_reducible repeat (first | refine blk_drewN ?_ _ | refine blk_drew ?_ | refine blk_alloc ?_ _)); refine blk_far ?_ NB0_105.out _; (with_reducible repeat (first | refine blk_drewN ?_ _ | refine blk_drew ?_ | refine blk_alloc ?_ _)); refine blk_far ?_ NB0_105.out _; (with_reducible repeat (first | refine blk_drewN ?_ _ | refine blk_drew ?_ | refine blk_alloc ?_ _)); refine blk_far ?_ NB0_105.out _; (with_reducible repeat (first | refine blk_drewN ?_ _ | refine blk_drew ?_ | refine blk_alloc ?_ _)); exact BK0.out) hg (Kd.R_ne HO_5.out BK0.out (by decide))); have n1_ := Aside0.mk (blk_grown (g := gb105) (o := .cells #[.int .i8 ((rd_T68 l0_1 x6_1).f0), .int .i16 ((rd_T68 l0_1 x6_1).f1), .int .i16 ((rd_T68 l0_1 x6_1).f2)] 68 (0, 0)) (by (with_reducible repeat (first | refine blk_drewN ?_ _ | refine blk_drew ?_ | refine blk_alloc ?_ _)); refine blk_put (cs := #[.int .i8 ((rd_T68 l0_1 x6_1).f0), .int .i16 ((rd_T68 l0_1 x6_1).f1), .int .i16 0]) ?_ 2 _ rfl; (with_reducible repeat (first | refine blk_drewN ?_ _ | refine blk_drew ?_ | refine blk_alloc ?_ _)); refine blk_put (cs := #[.int .i8 ((rd_T68 l0_1 x6_1).f0), .int .i16 0, .int .i16 0]) ?_ 1 _ rfl; (with_reducible repeat (first | refine blk_drewN ?_ _ | refine blk_drew ?_ | refine blk_alloc ?_ _)); refine blk_put (cs := #[.int .i8 0, .int .i16 0, .int .i16 0]) ?_ 0 _ rfl; (with_reducible repeat (first | refine blk_drewN ?_ _ | refine blk_drew ?_ | refine blk_alloc ?_ _)); exact BK105.out) hg (Kd.R_ne HO_5.out BK105.out (by decide))); have n2_ := Aside0.mk (hb); have n3_ := Aside0.mk (ho); clear BK0; clear BK105; clear HB; clear HO_5; have BK0 := n0_; have BK105 := n1_; have HB := n2_; have HO118 := n3_; clear n0_ n1_ n2_ n3_; clear ho hb hg hat)); try go_wp2_with (first | ((with_reducible refine gate_dst (N := 7) rfl ?_); refine box_event ?hg (N := 7) ?hd (cs := #[.int .i8 0, .int .i16 0, .int .i16 0]) (t := 68) ?hr ?_; (case hd => rfl); (case hg => rfl); (case hr => first | (go_simp; done) | (go_simp; rfl)); intro gb105 hg w38 hbox hb; have n0_ := Aside0.mk (Kd.R_below (by (with_reducible repeat (first | apply Kd.R_alloc | apply Kd.R_drewN | apply Kd.R_drew)); exact HO_5.out) hb); have n1_ := Aside0.mk (blk_below (g := gro0) (o := .cells #[.int .i8 a0_0, .slice (some ad104) l0_1.length c0_1, .slice A0_2 l0_2.length c0_2] 30 (0, 0)) (by (with_reducible repeat (first | refine blk_drewN ?_ _ | refine blk_drew ?_ | refine blk_alloc ?_ _)); exact BK0.out) hb); have n2_ := Aside0.mk (below_step (by repeat (first | (with_reducible first | exact HB.out | apply below_alloc | apply pw_below_drewN | apply below_drew1 | refine below_set ?_ GE0.out) | exact HB.out)) hb); have n3_ := Aside0.mk (hbox); have n4_ := Aside0.mk ((by rw [hg]; exact (below_size (by repeat (first | (with_reducible first | exact HB.out | apply below_alloc | apply pw_below_drewN | apply below_drew1 | refine below_set ?_ GE0.out) | exact HB.out))) : w.heap.size ≤ gb105)); have n5_ := Aside0.mk ((by rw [hg]; exact (below_size (by repeat (first | (with_reducible first | exact HB.out | apply below_alloc | apply pw_below_drewN | apply below_drew1 | refine below_set ?_ GE0.out) | exact HB.out))) : w.heap.size ≤ gb105)); have n6_ := Aside0.mk ((by rw [hg]; exact Nat.ne_of_lt (blk_lt (g := gro0) (o := .cells #[.int .i8 a0_0, .slice (some ad104) l0_1.length c0_1, .slice A0_2 l0_2.length c0_2] 30 (0, 0)) (by (with_reducible repeat (first | refine blk_drewN ?_ _ | refine blk_drew ?_ | refine blk_alloc ?_ _)); exact BK0.out)) : gro0 ≠ gb105)); have n7_ := Aside0.mk ((by rw [hg]; exact Nat.ne_of_gt (blk_lt (g := gro0) (o := .cells #[.int .i8 a0_0, .slice (some ad104) l0_1.length c0_1, .slice A0_2 l0_2.length c0_2] 30 (0, 0)) (by (with_reducible repeat (first | refine blk_drewN ?_ _ | refine blk_drew ?_ | refine blk_alloc ?_ _)); exact BK0.out)) : gb105 ≠ gro0)); clear HO_5; clear BK0; clear HB; have HO_5 := n0_; have BK0 := n1_; have HB := n2_; have BK105 := n3_; have GW105 := n4_; have GE105 := n5_; have NB0_105 := n6_; have NB105_0 := n7_; clear n0_ n1_ n2_ n3_ n4_ n5_ n6_ n7_; clear hb hbox hg; have hnb39 := NB105_0.out; have hnc39 := NB0_105.out; have hcz40_0 : w38.cell? ⟨gb105, 0, none⟩ = some (.int .i8 0) := (blk_cell BK105.out 0).trans rfl; have hcz40_1 : w38.cell? ⟨gb105, 1, none⟩ = some (.int .i16 0) := (blk_cell BK105.out 1).trans rfl; have hcz40_2 : w38.cell? ⟨gb105, 2, none⟩ = some (.int .i16 0) := (blk_cell BK105.out 2).trans rfl; have hfz40_0 := blk_frozen BK105.out 0; have hfz40_1 := blk_frozen BK105.out 1; have hfz40_2 := blk_frozen BK105.out 2; obtain ⟨Ao41, co41, eo41⟩ := Kd.R_slice HO_5.out; subst eo41; have p114 : 0 ≤ (((rd_T68 l0_1 x6_1).f1) : Int) := of_decide_eq_true (by first | (with_reducible assumption) | assumption); have q114 : ((rd_T68 l0_1 x6_1).f1) < (x5_1.length : Int) := of_decide_eq_true (by first | (with_reducible assumption) | assumption); obtain ⟨ad114, e114, hx114_0⟩ := Kd.at_bool (Kd.R_reads' HO_5.out).2.2 ((rd_T68 l0_1 x6_1).f1) p114 q114; (try rw [← Nbq32.out] at hx114_0); cases e114; have hn114_0 : ad114.block ≠ gb105 := Kd.own_blk (Kd.R_ne HO_5.out BK105.out (by decide)); have hn114_1 : ad114.block ≠ gb105 := Kd.own_blk (Kd.R_ne HO_5.out BK105.out (by decide)); have hn114_2 : ad114.block ≠ gb105 := Kd.own_blk (Kd.R_ne HO_5.out BK105.out (by decide)); replace hx114_0 := (cell_far (p := ⟨gb105, 0, none⟩) (by first | (rw [add_block]; exact hn114_0) | (show (Addr.add _ _).block ≠ _; rw [add_block]; exact hn114_0) | exact hn114_0) (.int .i8 ((rd_T68 l0_1 x6_1).f0))).trans hx114_0; replace hx114_0 := (cell_far (p := ⟨gb105, 1, none⟩) (by first | (rw [add_block]; exact hn114_1) | (show (Addr.add _ _).block ≠ _; rw [add_block]; exact hn114_1) | exact hn114_1) (.int .i16 ((rd_T68 l0_1 x6_1).f1))).trans hx114_0; replace hx114_0 := (cell_far (p := ⟨gb105, 2, none⟩) (by first | (rw [add_block]; exact hn114_2) | (show (Addr.add _ _).block ≠ _; rw [add_block]; exact hn114_2) | exact hn114_2) (.int .i16 ((rd_T68 l0_1 x6_1).f2))).trans hx114_0; (try have hy114_0 := fun (n_ : Nat) => (show (((((w38.drewN n_).setCell ⟨gb105, 0, none⟩ (.int .i8 ((rd_T68 l0_1 x6_1).f0))).setCell ⟨gb105, 1, none⟩ (.int .i16 ((rd_T68 l0_1 x6_1).f1))).setCell ⟨gb105, 2, none⟩ (.int .i16 ((rd_T68 l0_1 x6_1).f2)))).cell? _ = some _ from hx114_0)); clear hn114_0; clear hn114_1; clear hn114_2; replace p114 := eq_true p114; replace q114 := eq_true q114; have p115 : 0 ≤ (((rd_T68 l0_1 x6_1).f2) : Int) := of_decide_eq_true (by first | (with_reducible assumption) | assumption); have q115 : ((rd_T68 l0_1 x6_1).f2) < (x5_1.length : Int) := of_decide_eq_true (by first | (with_reducible assumption) | assumption); obtain ⟨ad115, e115, hx115_0⟩ := Kd.at_bool (Kd.R_reads' HO_5.out).2.2 ((rd_T68 l0_1 x6_1).f2) p115 q115; (try rw [← Nbq32.out] at hx115_0); obtain rfl : ad114 = ad115 := (by injection e115); have hn115_0 : ad114.block ≠ gb105 := Kd.own_blk (Kd.R_ne HO_5.out BK105.out (by decide)); have hn115_1 : ad114.block ≠ gb105 := Kd.own_blk (Kd.R_ne HO_5.out BK105.out (by decide)); have hn115_2 : ad114.block ≠ gb105 := Kd.own_blk (Kd.R_ne HO_5.out BK105.out (by decide)); replace hx115_0 := (cell_far (p := ⟨gb105, 0, none⟩) (by first | (rw [add_block]; exact hn115_0) | (show (Addr.add _ _).block ≠ _; rw [add_block]; exact hn115_0) | exact hn115_0) (.int .i8 ((rd_T68 l0_1 x6_1).f0))).trans hx115_0; replace hx115_0 := (cell_far (p := ⟨gb105, 1, none⟩) (by first | (rw [add_block]; exact hn115_1) | (show (Addr.add _ _).block ≠ _; rw [add_block]; exact hn115_1) | exact hn115_1) (.int .i16 ((rd_T68 l0_1 x6_1).f1))).trans hx115_0; replace hx115_0 := (cell_far (p := ⟨gb105, 2, none⟩) (by first | (rw [add_block]; exact hn115_2) | (show (Addr.add _ _).block ≠ _; rw [add_block]; exact hn115_2) | exact hn115_2) (.int .i16 ((rd_T68 l0_1 x6_1).f2))).trans hx115_0; (try have hy115_0 := fun (n_ : Nat) => (show (((((w38.drewN n_).setCell ⟨gb105, 0, none⟩ (.int .i8 ((rd_T68 l0_1 x6_1).f0))).setCell ⟨gb105, 1, none⟩ (.int .i16 ((rd_T68 l0_1 x6_1).f1))).setCell ⟨gb105, 2, none⟩ (.int .i16 ((rd_T68 l0_1 x6_1).f2)))).cell? _ = some _ from hx115_0)); clear hn115_0; clear hn115_1; clear hn115_2; replace p115 := eq_true p115; replace q115 := eq_true q115) | ((with_reducible refine gate_builtin (b := .append) (xs := #[.tmp 64, .tmp 66]) rfl ?_); at_builtin; refine Kd.R_append Kd.bool (w0 := w) w.heap.size rfl (.tmp 64) (.tmp 66) 81 4 (.bool false) 1 rfl Try.underlying81 info4 rfl (by decide) (by omega) (.slice (some ad114) x5_1.length co41) x5_1 (rdOf false x5_1 ((rd_T68 l0_1 x6_1).f2)) [.bool (rdOf false x5_1 ((rd_T68 l0_1 x6_1).f2))] (fun _ => True) (fun _ => False) rfl (by first | (go_simp; done) | (go_simp; rfl)) ?aP (fun _ hk => hk.elim) ?aF ?aO ?aB ?aS ?aL ?_; (case aP => exact rfl); (case aB => exact (by repeat (first | (with_reducible first | exact HB.out | apply below_alloc | apply pw_below_drewN | apply below_drew1 | refine below_set ?_ GE0.out | refine below_set ?_ GE105.out) | exact HB.out))); (case aF => exact (fun _ _ => trivial)); (case aO => exact (by (with_reducible repeat (first | apply Kd.R_alloc | apply Kd.R_drewN | apply Kd.R_drew)); exact Kd.R_mono (Kd.R_far (p := ⟨gb105, 2, none⟩) (Kd.R_far (p := ⟨gb105, 1, none⟩) (Kd.R_far (p := ⟨gb105, 0, none⟩) (Kd.R_types HO_5.out BK105.out (by decide)) (fun _ hk => hk.2) (.int .i8 ((rd_T68 l0_1 x6_1).f0))) (fun _ hk => hk.2) (.int .i16 ((rd_T68 l0_1 x6_1).f1))) (fun _ hk => hk.2) (.int .i16 ((rd_T68 l0_1 x6_1).f2))) (fun _ hk => trivial))); (case aS => exact (below_size (by repeat (first | (with_reducible first | exact HB.out | apply below_alloc | apply pw_below_drewN | apply below_drew1 | refine below_set ?_ GE0.out | refine below_set ?_ GE105.out) | exact HB.out)))); (case aL => have := LMc36.out; omega); intro v117 w42 ho hb hg hat; rw [← Ny116.out] at ho; have n0_ := Aside0.mk (blk_grown (g := gro0) (o := .cells #[.int .i8 a0_0, .slice (some ad104) l0_1.length c0_1, .slice A0_2 l0_2.length c0_2] 30 (0, 0)) (by (with_reducible repeat (first | refine blk_drewN ?_ _ | refine blk_drew ?_ | refine blk_alloc ?_ _)); refine blk_far ?_ NB0_105.out _; (with_reducible repeat (first | refine blk_drewN ?_ _ | refine blk_drew ?_ | refine blk_alloc ?_ _)); refine blk_far ?_ NB0_105.out _; (with_reducible repeat (first | refine blk_drewN ?_ _ | refine blk_drew ?_ | refine blk_alloc ?_ _)); refine blk_far ?_ NB0_105.out _; (with_reducible repeat (first | refine blk_drewN ?_ _ | refine blk_drew ?_ | refine blk_alloc ?_ _)); exact BK0.out) hg (Kd.R_ne HO_5.out BK0.out (by decide))); have n1_ := Aside0.mk (blk_grown (g := gb105) (o := .cells #[.int .i8 ((rd_T68 l0_1 x6_1).f0), .int .i16 ((rd_T68 l0_1 x6_1).f1), .int .i16 ((rd_T68 l0_1 x6_1).f2)] 68 (0, 0)) (by (with_reducible repeat (first | refine blk_drewN ?_ _ | refine blk_drew ?_ | refine blk_alloc ?_ _)); refine blk_put (cs := #[.int .i8 ((rd_T68 l0_1 x6_1).f0), .int .i16 ((rd_T68 l0_1 x6_1).f1), .int .i16 0]) ?_ 2 _ rfl; (with_reducible repeat (first | refine blk_drewN ?_ _ | refine blk_drew ?_ | refine blk_alloc ?_ _)); refine blk_put (cs := #[.int .i8 ((rd_T68 l0_1 x6_1).f0), .int .i16 0, .int .i16 0]) ?_ 1 _ rfl; (with_reducible repeat (first | refine blk_drewN ?_ _ | refine blk_drew ?_ | refine blk_alloc ?_ _)); refine blk_put (cs := #[.int .i8 0, .int .i16 0, .int .i16 0]) ?_ 0 _ rfl; (with_reducible repeat (first | refine blk_drewN ?_ _ | refine blk_drew ?_ | refine blk_alloc ?_ _)); exact BK105.out) hg (Kd.R_ne HO_5.out BK105.out (by decide))); have n2_ := Aside0.mk (hb); have n3_ := Aside0.mk (ho); clear BK0; clear BK105; clear HB; clear HO_5; have BK0 := n0_; have BK105 := n1_; have HB := n2_; have HO118 := n3_; clear n0_ n1_ n2_ n3_; clear ho hb hg hat)))
                            go_roundg k1
                            case measure => have := HK1.out; omega
                            case rel => exact ⟨(y116), (wrap64 (x6_1 + 1)), (by first | rfl | (simp; done) | (simp [*]; done)), H', ⟨by have := HK1.out; omega⟩, ⟨by (with_reducible repeat (first | apply Kd.R_alloc | apply Kd.R_drewN | apply Kd.R_drew)); exact HO118.out⟩, ⟨by (with_reducible repeat (first | refine blk_drewN ?_ _ | refine blk_drew ?_ | refine blk_alloc ?_ _)); exact BK0.out⟩, ⟨by repeat (first | (with_reducible first | exact HB.out | apply below_alloc | apply pw_below_drewN | apply below_drew1 | refine below_set ?_ GE0.out | refine below_set ?_ GE105.out) | exact HB.out)⟩⟩
                          · rw [if_neg c36] at H
                            exact absurd H (by simp)
                        · rw [if_neg c35] at H
                          exact absurd H (by simp)
                      · rw [if_neg c34] at H
                        exact absurd H (by simp)
                    · replace c33 := Bool.eq_false_iff.mpr c33
                      subst c33
                      have H1 : (if x5_1.length < 140737488355328 then (spec_l07Values.l0 k1 a1 (x5_1 ++ [false]) (wrap64 (x6_1 + 1)) a0_0 l0_1 l0_2) else (none)) = some r := by rw [if_neg (show ¬ (false = true) by decide)] at H; exact H
                      clear H
                      have H := H1
                      clear H1
                      by_cases c43 : x5_1.length < 140737488355328
                      · rw [if_pos c43] at H
                        have LMc43 := Aside0.mk c43
                        clear c43
                        obtain ⟨y119, hy119⟩ : ∃ y_ : List Bool, y_ = (x5_1 ++ [false]) := ⟨_, rfl⟩
                        replace H : (spec_l07Values.l0 k1 a1 y119 (wrap64 (x6_1 + 1)) a0_0 l0_1 l0_2) = some r := by first | (rw [hy119]; with_reducible exact H) | (have H2_ := (Option.bind_some _ _).symm.trans H; rw [hy119]; with_reducible exact H2_) | (have H2_ := (Option.bind_some _ _).symm.trans H; with_reducible exact H2_) | with_reducible exact H | (rw [hy119]; exact H) | exact H
                        have Ny119 := Aside0.mk hy119
                        clear hy119
                        have H' := Aside0.mk H
                        clear H
                        have hcz44_0 : wr.cell? ⟨gro0, 0, none⟩ = some (.int .i8 a0_0) := (blk_cell BK0.out 0).trans rfl
                        have hcz44_1 : wr.cell? ⟨gro0, 1, none⟩ = some (.slice A0_1 l0_1.length c0_1) := (blk_cell BK0.out 1).trans rfl
                        have hcz44_2 : wr.cell? ⟨gro0, 2, none⟩ = some (.slice A0_2 l0_2.length c0_2) := (blk_cell BK0.out 2).trans rfl
                        have hfz44_0 := blk_frozen BK0.out 0
                        have hfz44_1 := blk_frozen BK0.out 1
                        have hfz44_2 := blk_frozen BK0.out 2
                        have p104 : 0 ≤ (x6_1 : Int) := of_decide_eq_true (by first | (with_reducible assumption) | assumption)
                        have q104 : x6_1 < (l0_1.length : Int) := of_decide_eq_true (by first | (with_reducible assumption) | assumption)
                        obtain ⟨ad104, e104, hx104_0, hx104_1, hx104_2⟩ := at_T68 HR0_1.out x6_1 p104 q104
                        cases e104
                        replace hx104_0 := (HB.out.cell (World.block_lt_of_cell? w _ hx104_0)).trans hx104_0
                        replace hx104_1 := (HB.out.cell (World.block_lt_of_cell? w _ hx104_1)).trans hx104_1
                        replace hx104_2 := (HB.out.cell (World.block_lt_of_cell? w _ hx104_2)).trans hx104_2
                        replace p104 := eq_true p104
                        replace q104 := eq_true q104
                        go_wp2_with (first | ((with_reducible refine gate_dst (N := 7) rfl ?_); refine box_event ?hg (N := 7) ?hd (cs := #[.int .i8 0, .int .i16 0, .int .i16 0]) (t := 68) ?hr ?_; (case hd => rfl); (case hg => rfl); (case hr => first | (go_simp; done) | (go_simp; rfl)); intro gb105 hg w45 hbox hb; have n0_ := Aside0.mk (Kd.R_below (by (with_reducible repeat (first | apply Kd.R_alloc | apply Kd.R_drewN | apply Kd.R_drew)); exact HO_5.out) hb); have n1_ := Aside0.mk (blk_below (g := gro0) (o := .cells #[.int .i8 a0_0, .slice (some ad104) l0_1.length c0_1, .slice A0_2 l0_2.length c0_2] 30 (0, 0)) (by (with_reducible repeat (first | refine blk_drewN ?_ _ | refine blk_drew ?_ | refine blk_alloc ?_ _)); exact BK0.out) hb); have n2_ := Aside0.mk (below_step (by repeat (first | (with_reducible first | exact HB.out | apply below_alloc | apply pw_below_drewN | apply below_drew1 | refine below_set ?_ GE0.out) | exact HB.out)) hb); have n3_ := Aside0.mk (hbox); have n4_ := Aside0.mk ((by rw [hg]; exact (below_size (by repeat (first | (with_reducible first | exact HB.out | apply below_alloc | apply pw_below_drewN | apply below_drew1 | refine below_set ?_ GE0.out) | exact HB.out))) : w.heap.size ≤ gb105)); have n5_ := Aside0.mk ((by rw [hg]; exact (below_size (by repeat (first | (with_reducible first | exact HB.out | apply below_alloc | apply pw_below_drewN | apply below_drew1 | refine below_set ?_ GE0.out) | exact HB.out))) : w.heap.size ≤ gb105)); have n6_ := Aside0.mk ((by rw [hg]; exact Nat.ne_of_lt (blk_lt (g := gro0) (o := .cells #[.int .i8 a0_0, .slice (some ad104) l0_1.length c0_1, .slice A0_2 l0_2.length c0_2] 30 (0, 0)) (by (with_reducible repeat (first | refine blk_drewN ?_ _ | refine blk_drew ?_ | refine blk_alloc ?_ _)); exact BK0.out)) : gro0 ≠ gb105)); have n7_ := Aside0.mk ((by rw [hg]; exact Nat.ne_of_gt (blk_lt (g := gro0) (o := .cells #[.int .i8 a0_0, .slice (some ad104) l0_1.length c0_1, .slice A0_2 l0_2.length c0_2] 30 (0, 0)) (by (with_reducible repeat (first | refine blk_drewN ?_ _ | refine blk_drew ?_ | refine blk_alloc ?_ _)); exact BK0.out)) : gb105 ≠ gro0)); clear HO_5; clear BK0; clear HB; have HO_5 := n0_; have BK0 := n1_; have HB := n2_; have BK105 := n3_; have GW105 := n4_; have GE105 := n5_; have NB0_105 := n6_; have NB105_0 := n7_; clear n0_ n1_ n2_ n3_ n4_ n5_ n6_ n7_; clear hb hbox hg; have hnb46 := NB105_0.out; have hnc46 := NB0_105.out; have hcz47_0 : w45.cell? ⟨gb105, 0, none⟩ = some (.int .i8 0) := (blk_cell BK105.out 0).trans rfl; have hcz47_1 : w45.cell? ⟨gb105, 1, none⟩ = some (.int .i16 0) := (blk_cell BK105.out 1).trans rfl; have hcz47_2 : w45.cell? ⟨gb105, 2, none⟩ = some (.int .i16 0) := (blk_cell BK105.out 2).trans rfl; have hfz47_0 := blk_frozen BK105.out 0; have hfz47_1 := blk_frozen BK105.out 1; have hfz47_2 := blk_frozen BK105.out 2; obtain ⟨Ao48, co48, eo48⟩ := Kd.R_slice HO_5.out; subst eo48; have p114 : 0 ≤ (((rd_T68 l0_1 x6_1).f1) : Int) := of_decide_eq_true (by first | (with_reducible assumption) | assumption); have q114 : ((rd_T68 l0_1 x6_1).f1) < (x5_1.length : Int) := of_decide_eq_true (by first | (with_reducible assumption) | assumption); obtain ⟨ad114, e114, hx114_0⟩ := Kd.at_bool (Kd.R_reads' HO_5.out).2.2 ((rd_T68 l0_1 x6_1).f1) p114 q114; (try rw [← Nbq32.out] at hx114_0); cases e114; have hn114_0 : ad114.block ≠ gb105 := Kd.own_blk (Kd.R_ne HO_5.out BK105.out (by decide)); have hn114_1 : ad114.block ≠ gb105 := Kd.own_blk (Kd.R_ne HO_5.out BK105.out (by decide)); have hn114_2 : ad114.block ≠ gb105 := Kd.own_blk (Kd.R_ne HO_5.out BK105.out (by decide)); replace hx114_0 := (cell_far (p := ⟨gb105, 0, none⟩) (by first | (rw [add_block]; exact hn114_0) | (show (Addr.add _ _).block ≠ _; rw [add_block]; exact hn114_0) | exact hn114_0) (.int .i8 ((rd_T68 l0_1 x6_1).f0))).trans hx114_0; replace hx114_0 := (cell_far (p := ⟨gb105, 1, none⟩) (by first | (rw [add_block]; exact hn114_1) | (show (Addr.add _ _).block ≠ _; rw [add_block]; exact hn114_1) | exact hn114_1) (.int .i16 ((rd_T68 l0_1 x6_1).f1))).trans hx114_0; replace hx114_0 := (cell_far (p := ⟨gb105, 2, none⟩) (by first | (rw [add_block]; exact hn114_2) | (show (Addr.add _ _).block ≠ _; rw [add_block]; exact hn114_2) | exact hn114_2) (.int .i16 ((rd_T68 l0_1 x6_1).f2))).trans hx114_0; (try have hy114_0 := fun (n_ : Nat) => (show (((((w45.drewN n_).setCell ⟨gb105, 0, none⟩ (.int .i8 ((rd_T68 l0_1 x6_1).f0))).setCell ⟨gb105, 1, none⟩ (.int .i16 ((rd_T68 l0_1 x6_1).f1))).setCell ⟨gb105, 2, none⟩ (.int .i16 ((rd_T68 l0_1 x6_1).f2)))).cell? _ = some _ from hx114_0)); clear hn114_0; clear hn114_1; clear hn114_2; replace p114 := eq_true p114; replace q114 := eq_true q114) | ((with_reducible refine gate_builtin (b := .append) (xs := #[.tmp 64, .tmp 66]) rfl ?_); at_builtin; refine Kd.R_append Kd.bool (w0 := w) w.heap.size rfl (.tmp 64) (.tmp 66) 81 4 (.bool false) 1 rfl Try.underlying81 info4 rfl (by decide) (by omega) (.slice (some ad114) x5_1.length co48) x5_1 false [.bool false] (fun _ => True) (fun _ => False) rfl (by first | (go_simp; done) | (go_simp; rfl)) ?aP (fun _ hk => hk.elim) ?aF ?aO ?aB ?aS ?aL ?_; (case aP => exact rfl); (case aB => exact (by repeat (first | (with_reducible first | exact HB.out | apply below_alloc | apply pw_below_drewN | apply below_drew1 | refine below_set ?_ GE0.out | refine below_set ?_ GE105.out) | exact HB.out))); (case aF => exact (fun _ _ => trivial)); (case aO => exact (by (with_reducible repeat (first | apply Kd.R_alloc | apply Kd.R_drewN | apply Kd.R_drew)); exact Kd.R_mono (Kd.R_far (p := ⟨gb105, 2, none⟩) (Kd.R_far (p := ⟨gb105, 1, none⟩) (Kd.R_far (p := ⟨gb105, 0, none⟩) (Kd.R_types HO_5.out BK105.out (by decide)) (fun _ hk => hk.2) (.int .i8 ((rd_T68 l0_1 x6_1).f0))) (fun _ hk => hk.2) (.int .i16 ((rd_T68 l0_1 x6_1).f1))) (fun _ hk => hk.2) (.int .i16 ((rd_T68 l0_1 x6_1).f2))) (fun _ hk => trivial))); (case aS => exact (below_size (by repeat (first | (with_reducible first | exact HB.out | apply below_alloc | apply pw_below_drewN | apply below_drew1 | refine below_set ?_ GE0.out | refine below_set ?_ GE105.out) | exact HB.out)))); (case aL => have := LMc43.out; omega); intro v120 w49 ho hb hg hat; rw [← Ny119.out] at ho; have n0_ := Aside0.mk (blk_grown (g := gro0) (o := .cells #[.int .i8 a0_0, .slice (some ad104) l0_1.length c0_1, .slice A0_2 l0_2.length c0_2] 30 (0, 0)) (by (with_reducible repeat (first | refine blk_drewN ?_ _ | refine blk_drew ?_ | refine blk_alloc ?_ _)); refine blk_far ?_ NB0_105.out _; (with_reducible repeat (first | refine blk_drewN ?_ _ | refine blk_drew ?_ | refine blk_alloc ?_ _)); refine blk_far ?_ NB0_105.out _; (with_reducible repeat (first | refine blk_drewN ?_ _ | refine blk_drew ?_ | refine blk_alloc ?_ _)); refine blk_far ?_ NB0_105.out _; (with_reducible repeat (first | refine blk_drewN ?_ _ | refine blk_drew ?_ | refine blk_alloc ?_ _)); exact BK0.out) hg (Kd.R_ne HO_5.out BK0.out (by decide))); have n1_ := Aside0.mk (blk_grown (g := gb105) (o := .cells #[.int .i8 ((rd_T68 l0_1 x6_1).f0), .int .i16 ((rd_T68 l0_1 x6_1).f1), .int .i16 ((rd_T68 l0_1 x6_1).f2)] 68 (0, 0)) (by (with_reducible repeat (first | refine blk_drewN ?_ _ | refine blk_drew ?_ | refine blk_alloc ?_ _)); refine blk_put (cs := #[.int .i8 ((rd_T68 l0_1 x6_1).f0), .int .i16 ((rd_T68 l0_1 x6_1).f1), .int .i16 0]) ?_ 2 _ rfl; (with_reducible repeat (first | refine blk_drewN ?_ _ | refine blk_drew ?_ | refine blk_alloc ?_ _)); refine blk_put (cs := #[.int .i8 ((rd_T68 l0_1 x6_1).f0), .int .i16 0, .int .i16 0]) ?_ 1 _ rfl; (with_reducible repeat (first | refine blk_drewN ?_ _ | refine blk_drew ?_ | refine blk_alloc ?_ _)); refine blk_put (cs := #[.int .i8 0, .int .i16 0, .int .i16 0]) ?_ 0 _ rfl; (with_reducible repeat (first | refine blk_drewN ?_ _ | refine blk_drew ?_ | refine blk_alloc ?_ _)); exact BK105.out) hg (Kd.R_ne HO_5.out BK105.out (by decide))); have n2_ := Aside0.mk (hb); have n3_ := Aside0.mk (ho); clear BK0; clear BK105; clear HB; clear HO_5; have BK0 := n0_; have BK105 := n1_; have HB := n2_; have HO121 := n3_; clear n0_ n1_ n2_ n3_; clear ho hb hg hat))
                        repeat (go_quiet (first | ((with_reducible refine gate_dst (N := 7) rfl ?_); refine box_event ?hg (N := 7) ?hd (cs := #[.int .i8 0, .int .i16 0, .int .i16 0]) (t := 68) ?hr ?_; (case hd => rfl); (case hg => rfl); (case hr => first | (go_simp; done) | (go_simp; rfl)); intro gb105 hg w45 hbox hb; have n0_ := Aside0.mk (Kd.R_below (by (with_reducible repeat (first | apply Kd.R_alloc | apply Kd.R_drewN | apply Kd.R_drew)); exact HO_5.out) hb); have n1_ := Aside0.mk (blk_below (g := gro0) (o := .cells #[.int .i8 a0_0, .slice (some ad104) l0_1.length c0_1, .slice A0_2 l0_2.length c0_2] 30 (0, 0)) (by (with_reducible repeat (first | refine blk_drewN ?_ _ | refine blk_drew ?_ | refine blk_alloc ?_ _)); exact BK0.out) hb); have n2_ := Aside0.mk (below_step (by repeat (first | (with_reducible first | exact HB.out | apply below_alloc | apply pw_below_drewN | apply below_drew1 | refine below_set ?_ GE0.out) | exact HB.out)) hb); have n3_ := Aside0.mk (hbox); have n4_ := Aside0.mk ((by rw [hg]; exact (below_size (by repeat (first | (with_reducible first | exact HB.out | apply below_alloc | apply pw_below_drewN | apply below_drew1 | refine below_set ?_ GE0.out) | exact HB.out))) : w.heap.size ≤ gb105)); have n5_ := Aside0.mk ((by rw [hg]; exact (below_size (by repeat (first | (with_reducible first | exact HB.out | apply below_alloc | apply pw_below_drewN | apply below_drew1 | refine below_set ?_ GE0.out) | exact HB.out))) : w.heap.size ≤ gb105)); have n6_ := Aside0.mk ((by rw [hg]; exact Nat.ne_of_lt (blk_lt (g := gro0) (o := .cells #[.int .i8 a0_0, .slice (some ad104) l0_1.length c0_1, .slice A0_2 l0_2.length c0_2] 30 (0, 0)) (by (with_reducible repeat (first | refine blk_drewN ?_ _ | refine blk_drew ?_ | refine blk_alloc ?_ _)); exact BK0.out)) : gro0 ≠ gb105)); have n7_ := Aside0.mk ((by rw [hg]; exact Nat.ne_of_gt (blk_lt (g := gro0) (o := .cells #[.int .i8 a0_0, .slice (some ad104) l0_1.length c0_1, .slice A0_2 l0_2.length c0_2] 30 (0, 0)) (by (with_reducible repeat (first | refine blk_drewN ?_ _ | refine blk_drew ?_ | refine blk_alloc ?_ _)); exact BK0.out)) : gb105 ≠ gro0)); clear HO_5; clear BK0; clear HB; have HO_5 := n0_; have BK0 := n1_; have HB := n2_; have BK105 := n3_; have GW105 := n4_; have GE105 := n5_; have NB0_105 := n6_; have NB105_0 := n7_; clear n0_ n1_ n2_ n3_ n4_ n5_ n6_ n7_; clear hb hbox hg; have hnb46 := NB105_0.out; have hnc46 := NB0_105.out; have hcz47_0 : w45.cell? ⟨gb105, 0, none⟩ = some (.int .i8 0) := (blk_cell BK105.out 0).trans rfl; have hcz47_1 : w45.cell? ⟨gb105, 1, none⟩ = some (.int .i16 0) := (blk_cell BK105.out 1).trans rfl; have hcz47_2 : w45.cell? ⟨gb105, 2, none⟩ = some (.int .i16 0) := (blk_cell BK105.out 2).trans rfl; have hfz47_0 := blk_frozen BK105.out 0; have hfz47_1 := blk_frozen BK105.out 1; have hfz47_2 := blk_frozen BK105.out 2; obtain ⟨Ao48, co48, eo48⟩ := Kd.R_slice HO_5.out; subst eo48; have p114 : 0 ≤ (((rd_T68 l0_1 x6_1).f1) : Int) := of_decide_eq_true (by first | (with_reducible assumption) | assumption); have q114 : ((rd_T68 l0_1 x6_1).f1) < (x5_1.length : Int) := of_decide_eq_true (by first | (with_reducible assumption) | assumption); obtain ⟨ad114, e114, hx114_0⟩ := Kd.at_bool (Kd.R_reads' HO_5.out).2.2 ((rd_T68 l0_1 x6_1).f1) p114 q114; (try rw [← Nbq32.out] at hx114_0); cases e114; have hn114_0 : ad114.block ≠ gb105 := Kd.own_blk (Kd.R_ne HO_5.out BK105.out (by decide)); have hn114_1 : ad114.block ≠ gb105 := Kd.own_blk (Kd.R_ne HO_5.out BK105.out (by decide)); have hn114_2 : ad114.block ≠ gb105 := Kd.own_blk (Kd.R_ne HO_5.out BK105.out (by decide)); replace hx114_0 := (cell_far (p := ⟨gb105, 0, none⟩) (by first | (rw [add_block]; exact hn114_0) | (show (Addr.add _ _).block ≠ _; rw [add_block]; exact hn114_0) | exact hn114_0) (.int .i8 ((rd_T68 l0_1 x6_1).f0))).trans hx114_0; replace hx114_0 := (cell_far (p := ⟨gb105, 1, none⟩) (by first | (rw [add_block]; exact hn114_1) | (show (Addr.add _ _).block ≠ _; rw [add_block]; exact hn114_1) | exact hn114_1) (.int .i16 ((rd_T68 l0_1 x6_1).f1))).trans hx114_0; replace hx114_0 := (cell_far (p := ⟨gb105, 2, none⟩) (by first | (rw [add_block]; exact hn114_2) | (show (Addr.add _ _).block ≠ _; rw [add_block]; exact hn114_2) | exact hn114_2) (.int .i16 ((rd_T68 l0_1 x6_1).f2))).trans hx114_0; (try have hy114_0 := fun (n_ : Nat) => (show (((((w45.drewN n_).setCell ⟨gb105, 0, none⟩ (.int .i8 ((rd_T68 l0_1 x6_1).f0))).setCell ⟨gb105, 1, none⟩ (.int .i16 ((rd_T68 l0_1 x6_1).f1))).setCell ⟨gb105, 2, none⟩ (.int .i16 ((rd_T68 l0_1 x6_1).f2)))).cell? _ = some _ from hx114_0)); clear hn114_0; clear hn114_1; clear hn114_2; replace p114 := eq_true p114; replace q114 := eq_true q114) | ((with_reducible refine gate_builtin (b := .append) (xs := #[.tmp 64, .tmp 66]) rfl ?_); at_builtin; refine Kd.R_append Kd.bool (w0 := w) w.heap.size rfl (.tmp 64) (.tmp 66) 81 4 (.bool false) 1 rfl Try.underlying81 info4 rfl (by decide) (by omega) (.slice (some ad114) x5_1.length co48) x5_1 false [.bool false] (fun _ => True) (fun _ => False) rfl (by first | (go_simp; done) | (go_simp; rfl)) ?aP (fun _ hk => hk.elim) ?aF ?aO ?aB ?aS ?aL ?_; (case aP => exact rfl); (case aB => exact (by repeat (first | (with_reducible first | exact HB.out | apply below_alloc | apply pw_below_drewN | apply below_drew1 | refine below_set ?_ GE0.out | refine below_set ?_ GE105.out) | exact HB.out))); (case aF => exact (fun _ _ => trivial)); (case aO => exact (by (with_reducible repeat (first | apply Kd.R_alloc | apply Kd.R_drewN | apply Kd.R_drew)); exact Kd.R_mono (Kd.R_far (p := ⟨gb105, 2, none⟩) (Kd.R_far (p := ⟨gb105, 1, none⟩) (Kd.R_far (p := ⟨gb105, 0, none⟩) (Kd.R_types HO_5.out BK105.out (by decide)) (fun _ hk => hk.2) (.int .i8 ((rd_T68 l0_1 x6_1).f0))) (fun _ hk => hk.2) (.int .i16 ((rd_T68 l0_1 x6_1).f1))) (fun _ hk => hk.2) (.int .i16 ((rd_T68 l0_1 x6_1).f2))) (fun _ hk => trivial))); (case aS => exact (below_size (by repeat (first | (with_reducible first | exact HB.out | apply below_alloc | apply pw_below_drewN | apply below_drew1 | refine below_set ?_ GE0.out | refine below_set ?_ GE105.out) | exact HB.out)))); (case aL => have := LMc43.out; omega); intro v120 w49 ho hb hg hat; rw [← Ny119.out] at ho; have n0_ := Aside0.mk (blk_grown (g := gro0) (o := .cells #[.int .i8 a0_0, .slice (some ad104) l0_1.length c0_1, .slice A0_2 l0_2.length c0_2] 30 (0, 0)) (by (with_reducible repeat (first | refine blk_drewN ?_ _ | refine blk_drew ?_ | refine blk_alloc ?_ _)); refine blk_far ?_ NB0_105.out _; (with_reducible repeat (first | refine blk_drewN ?_ _ | refine blk_drew ?_ | refine blk_alloc ?_ _)); refine blk_far ?_ NB0_105.out _; (with_reducible repeat (first | refine blk_drewN ?_ _ | refine blk_drew ?_ | refine blk_alloc ?_ _)); refine blk_far ?_ NB0_105.out _; (with_reducible repeat (first | refine blk_drewN ?_ _ | refine blk_drew ?_ | refine blk_alloc ?_ _)); exact BK0.out) hg (Kd.R_ne HO_5.out BK0.out (by decide))); have n1_ := Aside0.mk (blk_grown (g := gb105) (o := .cells #[.int .i8 ((rd_T68 l0_1 x6_1).f0), .int .i16 ((rd_T68 l0_1 x6_1).f1), .int .i16 ((rd_T68 l0_1 x6_1).f2)] 68 (0, 0)) (by (with_reducible repeat (first | refine blk_drewN ?_ _ | refine blk_drew ?_ | refine blk_alloc ?_ _)); refine blk_put (cs := #[.int .i8 ((rd_T68 l0_1 x6_1).f0), .int .i16 ((rd_T68 l0_1 x6_1).f1), .int .i16 0]) ?_ 2 _ rfl; (with_reducible repeat (first | refine blk_drewN ?_ _ | refine blk_drew ?_ | refine blk_alloc ?_ _)); refine blk_put (cs := #[.int .i8 ((rd_T68 l0_1 x6_1).f0), .int .i16 0, .int .i16 0]) ?_ 1 _ rfl; (with_reducible repeat (first | refine blk_drewN ?_ _ | refine blk_drew ?_ | refine blk_alloc ?_ _)); refine blk_put (cs := #[.int .i8 0, .int .i16 0, .int .i16 0]) ?_ 0 _ rfl; (with_reducible repeat (first | refine blk_drewN ?_ _ | refine blk_drew ?_ | refine blk_alloc ?_ _)); exact BK105.out) hg (Kd.R_ne HO_5.out BK105.out (by decide))); have n2_ := Aside0.mk (hb); have n3_ := Aside0.mk (ho); clear BK0; clear BK105; clear HB; clear HO_5; have BK0 := n0_; have BK105 := n1_; have HB := n2_; have HO121 := n3_; clear n0_ n1_ n2_ n3_; clear ho hb hg hat)); try go_wp2_with (first | ((with_reducible refine gate_dst (N := 7) rfl ?_); refine box_event ?hg (N := 7) ?hd (cs := #[.int .i8 0, .int .i16 0, .int .i16 0]) (t := 68) ?hr ?_; (case hd => rfl); (case hg => rfl); (case hr => first | (go_simp; done) | (go_simp; rfl)); intro gb105 hg w45 hbox hb; have n0_ := Aside0.mk (Kd.R_below (by (with_reducible repeat (first | apply Kd.R_alloc | apply Kd.R_drewN | apply Kd.R_drew)); exact HO_5.out) hb); have n1_ := Aside0.mk (blk_below (g := gro0) (o := .cells #[.int .i8 a0_0, .slice (some ad104) l0_1.length c0_1, .slice A0_2 l0_2.length c0_2] 30 (0, 0)) (by (with_reducible repeat (first | refine blk_drewN ?_ _ | refine blk_drew ?_ | refine blk_alloc ?_ _)); exact BK0.out) hb); have n2_ := Aside0.mk (below_step (by repeat (first | (with_reducible first | exact HB.out | apply below_alloc | apply pw_below_drewN | apply below_drew1 | refine below_set ?_ GE0.out) | exact HB.out)) hb); have n3_ := Aside0.mk (hbox); have n4_ := Aside0.mk ((by rw [hg]; exact (below_size (by repeat (first | (with_reducible first | exact HB.out | apply below_alloc | apply pw_below_drewN | apply below_drew1 | refine below_set ?_ GE0.out) | exact HB.out))) : w.heap.size ≤ gb105)); have n5_ := Aside0.mk ((by rw [hg]; exact (below_size (by repeat (first | (with_reducible first | exact HB.out | apply below_alloc | apply pw_below_drewN | apply below_drew1 | refine below_set ?_ GE0.out) | exact HB.out))) : w.heap.size ≤ gb105)); have n6_ := Aside0.mk ((by rw [hg]; exact Nat.ne_of_lt (blk_lt (g := gro0) (o := .cells #[.int .i8 a0_0, .slice (some ad104) l0_1.length c0_1, .slice A0_2 l0_2.length c0_2] 30 (0, 0)) (by (with_reducible repeat (first | refine blk_drewN ?_ _ | refine blk_drew ?_ | refine blk_alloc ?_ _)); exact BK0.out)) : gro0 ≠ gb105)); have n7_ := Aside0.mk ((by rw [hg]; exact Nat.ne_of_gt (blk_lt (g := gro0) (o := .cells #[.int .i8 a0_0, .slice (some ad104) l0_1.length c0_1, .slice A0_2 l0_2.length c0_2] 30 (0, 0)) (by (with_reducible repeat (first | refine blk_drewN ?_ _ | refine blk_drew ?_ | refine blk_alloc ?_ _)); exact BK0.out)) : gb105 ≠ gro0)); clear HO_5; clear BK0; clear HB; have HO_5 := n0_; have BK0 := n1_; have HB := n2_; have BK105 := n3_; have GW105 := n4_; have GE105 := n5_; have NB0_105 := n6_; have NB105_0 := n7_; clear n0_ n1_ n2_ n3_ n4_ n5_ n6_ n7_; clear hb hbox hg; have hnb46 := NB105_0.out; have hnc46 := NB0_105.out; have hcz47_0 : w45.cell? ⟨gb105, 0, none⟩ = some (.int .i8 0) := (blk_cell BK105.out 0).trans rfl; have hcz47_1 : w45.cell? ⟨gb105, 1, none⟩ = some (.int .i16 0) := (blk_cell BK105.out 1).trans rfl; have hcz47_2 : w45.cell? ⟨gb105, 2, none⟩ = some (.int .i16 0) := (blk_cell BK105.out 2).trans rfl; have hfz47_0 := blk_frozen BK105.out 0; have hfz47_1 := blk_frozen BK105.out 1; have hfz47_2 := blk_frozen BK105.out 2; obtain ⟨Ao48, co48, eo48⟩ := Kd.R_slice HO_5.out; subst eo48; have p114 : 0 ≤ (((rd_T68 l0_1 x6_1).f1) : Int) := of_decide_eq_true (by first | (with_reducible assumption) | assumption); have q114 : ((rd_T68 l0_1 x6_1).f1) < (x5_1.length : Int) := of_decide_eq_true (by first | (with_reducible assumption) | assumption); obtain ⟨ad114, e114, hx114_0⟩ := Kd.at_bool (Kd.R_reads' HO_5.out).2.2 ((rd_T68 l0_1 x6_1).f1) p114 q114; (try rw [← Nbq32.out] at hx114_0); cases e114; have hn114_0 : ad114.block ≠ gb105 := Kd.own_blk (Kd.R_ne HO_5.out BK105.out (by decide)); have hn114_1 : ad114.block ≠ gb105 := Kd.own_blk (Kd.R_ne HO_5.out BK105.out (by decide)); have hn114_2 : ad114.block ≠ gb105 := Kd.own_blk (Kd.R_ne HO_5.out BK105.out (by decide)); replace hx114_0 := (cell_far (p := ⟨gb105, 0, none⟩) (by first | (rw [add_block]; exact hn114_0) | (show (Addr.add _ _).block ≠ _; rw [add_block]; exact hn114_0) | exact hn114_0) (.int .i8 ((rd_T68 l0_1 x6_1).f0))).trans hx114_0; replace hx114_0 := (cell_far (p := ⟨gb105, 1, none⟩) (by first | (rw [add_block]; exact hn114_1) | (show (Addr.add _ _).block ≠ _; rw [add_block]; exact hn114_1) | exact hn114_1) (.int .i16 ((rd_T68 l0_1 x6_1).f1))).trans hx114_0; replace hx114_0 := (cell_far (p := ⟨gb105, 2, none⟩) (by first | (rw [add_block]; exact hn114_2) | (show (Addr.add _ _).block ≠ _; rw [add_block]; exact hn114_2) | exact hn114_2) (.int .i16 ((rd_T68 l0_1 x6_1).f2))).trans hx114_0; (try have hy114_0 := fun (n_ : Nat) => (show (((((w45.drewN n_).setCell ⟨gb105, 0, none⟩ (.int .i8 ((rd_T68 l0_1 x6_1).f0))).setCell ⟨gb105, 1, none⟩ (.int .i16 ((rd_T68 l0_1 x6_1).f1))).setCell ⟨gb105, 2, none⟩ (.int .i16 ((rd_T68 l0_1 x6_1).f2)))).cell? _ = some _ from hx114_0)); clear hn114_0; clear hn114_1; clear hn114_2; replace p114 := eq_true p114; replace q114 := eq_true q114) | ((with_reducible refine gate_builtin (b := .append) (xs := #[.tmp 64, .tmp 66]) rfl ?_); at_builtin; refine Kd.R_append Kd.bool (w0 := w) w.heap.size rfl (.tmp 64) (.tmp 66) 81 4 (.bool false) 1 rfl Try.underlying81 info4 rfl (by decide) (by omega) (.slice (some ad114) x5_1.length co48) x5_1 false [.bool false] (fun _ => True) (fun _ => False) rfl (by first | (go_simp; done) | (go_simp; rfl)) ?aP (fun _ hk => hk.elim) ?aF ?aO ?aB ?aS ?aL ?_; (case aP => exact rfl); (case aB => exact (by repeat (first | (with_reducible first | exact HB.out | apply below_alloc | apply pw_below_drewN | apply below_drew1 | refine below_set ?_ GE0.out | refine below_set ?_ GE105.out) | exact HB.out))); (case aF => exact (fun _ _ => trivial)); (case aO => exact (by (with_reducible repeat (first | apply Kd.R_alloc | apply Kd.R_drewN | apply Kd.R_drew)); exact Kd.R_mono (Kd.R_far (p := ⟨gb105, 2, none⟩) (Kd.R_far (p := ⟨gb105, 1, none⟩) (Kd.R_far (p := ⟨gb105, 0, none⟩) (Kd.R_types HO_5.out BK105.out (by decide)) (fun _ hk => hk.2) (.int .i8 ((rd_T68 l0_1 x6_1).f0))) (fun _ hk => hk.2) (.int .i16 ((rd_T68 l0_1 x6_1).f1))) (fun _ hk => hk.2) (.int .i16 ((rd_T68 l0_1 x6_1).f2))) (fun _ hk => trivial))); (case aS => exact (below_size (by repeat (first | (with_reducible first | exact HB.out | apply below_alloc | apply pw_below_drewN | apply below_drew1 | refine below_set ?_ GE0.out | refine below_set ?_ GE105.out) | exact HB.out)))); (case aL => have := LMc43.out; omega); intro v120 w49 ho hb hg hat; rw [← Ny119.out] at ho; have n0_ := Aside0.mk (blk_grown (g := gro0) (o := .cells #[.int .i8 a0_0, .slice (some ad104) l0_1.length c0_1, .slice A0_2 l0_2.length c0_2] 30 (0, 0)) (by (with_reducible repeat (first | refine blk_drewN ?_ _ | refine blk_drew ?_ | refine blk_alloc ?_ _)); refine blk_far ?_ NB0_105.out _; (with_reducible repeat (first | refine blk_drewN ?_ _ | refine blk_drew ?_ | refine blk_alloc ?_ _)); refine blk_far ?_ NB0_105.out _; (with_reducible repeat (first | refine blk_drewN ?_ _ | refine blk_drew ?_ | refine blk_alloc ?_ _)); refine blk_far ?_ NB0_105.out _; (with_reducible repeat (first | refine blk_drewN ?_ _ | refine blk_drew ?_ | refine blk_alloc ?_ _)); exact BK0.out) hg (Kd.R_ne HO_5.out BK0.out (by decide))); have n1_ := Aside0.mk (blk_grown (g := gb105) (o := .cells #[.int .i8 ((rd_T68 l0_1 x6_1).f0), .int .i16 ((rd_T68 l0_1 x6_1).f1), .int .i16 ((rd_T68 l0_1 x6_1).f2)] 68 (0, 0)) (by (with_reducible repeat (first | refine blk_drewN ?_ _ | refine blk_drew ?_ | refine blk_alloc ?_ _)); refine blk_put (cs := #[.int .i8 ((rd_T68 l0_1 x6_1).f0), .int .i16 ((rd_T68 l0_1 x6_1).f1), .int .i16 0]) ?_ 2 _ rfl; (with_reducible repeat (first | refine blk_drewN ?_ _ | refine blk_drew ?_ | refine blk_alloc ?_ _)); refine blk_put (cs := #[.int .i8 ((rd_T68 l0_1 x6_1).f0), .int .i16 0, .int .i16 0]) ?_ 1 _ rfl; (with_reducible repeat (first | refine blk_drewN ?_ _ | refine blk_drew ?_ | refine blk_alloc ?_ _)); refine blk_put (cs := #[.int .i8 0, .int .i16 0, .int .i16 0]) ?_ 0 _ rfl; (with_reducible repeat (first | refine blk_drewN ?_ _ | refine blk_drew ?_ | refine blk_alloc ?_ _)); exact BK105.out) hg (Kd.R_ne HO_5.out BK105.out (by decide))); have n2_ := Aside0.mk (hb); have n3_ := Aside0.mk (ho); clear BK0; clear BK105; clear HB; clear HO_5; have BK0 := n0_; have BK105 := n1_; have HB := n2_; have HO121 := n3_; clear n0_ n1_ n2_ n3_; clear ho hb hg hat)))
                        go_roundg k1
                        case measure => have := HK1.out; omega
                        case rel => exact ⟨(y119), (wrap64 (x6_1 + 1)), (by first | rfl | (simp; done) | (simp [*]; done)), H', ⟨by have := HK1.out; omega⟩, ⟨by (with_reducible repeat (first | apply Kd.R_alloc | apply Kd.R_drewN | apply Kd.R_drew)); exact HO121.out⟩, ⟨by (with_reducible repeat (first | refine blk_drewN ?_ _ | refine blk_drew ?_ | refine blk_alloc ?_ _)); exact BK0.out⟩, ⟨by repeat (first | (with_reducible first | exact HB.out | apply below_alloc | apply pw_below_drewN | apply below_drew1 | refine below_set ?_ GE0.out | refine below_set ?_ GE105.out) | exact HB.out)⟩⟩
                      · rw [if_neg c43] at H
                        exact absurd H (by simp)
                  · rw [if_neg c31] at H
                    exact absurd H (by simp)
                · rw [if_neg c30] at H
                  exact absurd H (by simp)
              · rw [if_neg c29] at H
                have c29b0 : (((rd_T68 l0_1 x6_1).f0) == 3) = false := beq_eq_false_iff_ne.mpr c29
                have c29b1 : (((rd_T68 l0_1 x6_1).f0) != 3) = true := bne_iff_ne.mpr c29
                by_cases c50 : x5_1.length < 140737488355328
                · rw [if_pos c50] at H
                  have LMc50 := Aside0.mk c50
                  clear c50
                  obtain ⟨y122, hy122⟩ : ∃ y_ : List Bool, y_ = (x5_1 ++ [true]) := ⟨_, rfl⟩
                  replace H : (spec_l07Values.l0 k1 a1 y122 (wrap64 (x6_1 + 1)) a0_0 l0_1 l0_2) = some r := by first | (rw [hy122]; with_reducible exact H) | (have H2_ := (Option.bind_some _ _).symm.trans H; rw [hy122]; with_reducible exact H2_) | (have H2_ := (Option.bind_some _ _).symm.trans H; with_reducible exact H2_) | with_reducible exact H | (rw [hy122]; exact H) | exact H
                  have Ny122 := Aside0.mk hy122
                  clear hy122
                  have H' := Aside0.mk H
                  clear H
                  have hcz51_0 : wr.cell? ⟨gro0, 0, none⟩ = some (.int .i8 a0_0) := (blk_cell BK0.out 0).trans rfl
                  have hcz51_1 : wr.cell? ⟨gro0, 1, none⟩ = some (.slice A0_1 l0_1.length c0_1) := (blk_cell BK0.out 1).trans rfl
                  have hcz51_2 : wr.cell? ⟨gro0, 2, none⟩ = some (.slice A0_2 l0_2.length c0_2) := (blk_cell BK0.out 2).trans rfl
                  have hfz51_0 := blk_frozen BK0.out 0
                  have hfz51_1 := blk_frozen BK0.out 1
                  have hfz51_2 := blk_frozen BK0.out 2
                  have p104 : 0 ≤ (x6_1 : Int) := of_decide_eq_true (by first | (with_reducible assumption) | assumption)
                  have q104 : x6_1 < (l0_1.length : Int) := of_decide_eq_true (by first | (with_reducible assumption) | assumption)
                  obtain ⟨ad104, e104, hx104_0, hx104_1, hx104_2⟩ := at_T68 HR0_1.out x6_1 p104 q104
                  cases e104
                  replace hx104_0 := (HB.out.cell (World.block_lt_of_cell? w _ hx104_0)).trans hx104_0
                  replace hx104_1 := (HB.out.cell (World.block_lt_of_cell? w _ hx104_1)).trans hx104_1
                  replace hx104_2 := (HB.out.cell (World.block_lt_of_cell? w _ hx104_2)).trans hx104_2
                  replace p104 := eq_true p104
                  replace q104 := eq_true q104
                  go_wp2_with (first | ((with_reducible refine gate_dst (N := 7) rfl ?_); refine box_event ?hg (N := 7) ?hd (cs := #[.int .i8 0, .int .i16 0, .int .i16 0]) (t := 68) ?hr ?_; (case hd => rfl); (case hg => rfl); (case hr => first | (go_simp; done) | (go_simp; rfl)); intro gb105 hg w52 hbox hb; have n0_ := Aside0.mk (Kd.R_below (by (with_reducible repeat (first | apply Kd.R_alloc | apply Kd.R_drewN | apply Kd.R_drew)); exact HO_5.out) hb); have n1_ := Aside0.mk (blk_below (g := gro0) (o := .cells #[.int .i8 a0_0, .slice (some ad104) l0_1.length c0_1, .slice A0_2 l0_2.length c0_2] 30 (0, 0)) (by (with_reducible repeat (first | refine blk_drewN ?_ _ | refine blk_drew ?_ | refine blk_alloc ?_ _)); exact BK0.out) hb); have n2_ := Aside0.mk (below_step (by repeat (first | (with_reducible first | exact HB.out | apply below_alloc | apply pw_below_drewN | apply below_drew1 | refine below_set ?_ GE0.out) | exact HB.out)) hb); have n3_ := Aside0.mk (hbox); have n4_ := Aside0.mk ((by rw [hg]; exact (below_size (by repeat (first | (with_reducible first | exact HB.out | apply below_alloc | apply pw_below_drewN | apply below_drew1 | refine below_set ?_ GE0.out) | exact HB.out))) : w.heap.size ≤ gb105)); have n5_ := Aside0.mk ((by rw [hg]; exact (below_size (by repeat (first | (with_reducible first | exact HB.out | apply below_alloc | apply pw_below_drewN | apply below_drew1 | refine below_set ?_ GE0.out) | exact HB.out))) : w.heap.size ≤ gb105)); have n6_ := Aside0.mk ((by rw [hg]; exact Nat.ne_of_lt (blk_lt (g := gro0) (o := .cells #[.int .i8 a0_0, .slice (some ad104) l0_1.length c0_1, .slice A0_2 l0_2.length c0_2] 30 (0, 0)) (by (with_reducible repeat (first | refine blk_drewN ?_ _ | refine blk_drew ?_ | refine blk_alloc ?_ _)); exact BK0.out)) : gro0 ≠ gb105)); have n7_ := Aside0.mk ((by rw [hg]; exact Nat.ne_of_gt (blk_lt (g := gro0) (o := .cells #[.int .i8 a0_0, .slice (some ad104) l0_1.length c0_1, .slice A0_2 l0_2.length c0_2] 30 (0, 0)) (by (with_reducible repeat (first | refine blk_drewN ?_ _ | refine blk_drew ?_ | refine blk_alloc ?_ _)); exact BK0.out)) : gb105 ≠ gro0)); clear HO_5; clear BK0; clear HB; have HO_5 := n0_; have BK0 := n1_; have HB := n2_; have BK105 := n3_; have GW105 := n4_; have GE105 := n5_; have NB0_105 := n6_; have NB105_0 := n7_; clear n0_ n1_ n2_ n3_ n4_ n5_ n6_ n7_; clear hb hbox hg; have hnb53 := NB105_0.out; have hnc53 := NB0_105.out; have hcz54_0 : w52.cell? ⟨gb105, 0, none⟩ = some (.int .i8 0) := (blk_cell BK105.out 0).trans rfl; have hcz54_1 : w52.cell? ⟨gb105, 1, none⟩ = some (.int .i16 0) := (blk_cell BK105.out 1).trans rfl; have hcz54_2 : w52.cell? ⟨gb105, 2, none⟩ = some (.int .i16 0) := (blk_cell BK105.out 2).trans rfl; have hfz54_0 := blk_frozen BK105.out 0; have hfz54_1 := blk_frozen BK105.out 1; have hfz54_2 := blk_frozen BK105.out 2) | ((with_reducible refine gate_builtin (b := .append) (xs := #[.tmp 64, .tmp 66]) rfl ?_); at_builtin; refine Kd.R_append Kd.bool (w0 := w) w.heap.size rfl (.tmp 64) (.tmp 66) 81 4 (.bool false) 1 rfl Try.underlying81 info4 rfl (by decide) (by omega) u5 x5_1 true [.bool true] (fun _ => True) (fun _ => False) rfl (by first | (go_simp; done) | (go_simp; rfl)) ?aP (fun _ hk => hk.elim) ?aF ?aO ?aB ?aS ?aL ?_; (case aP => exact rfl); (case aB => exact (by repeat (first | (with_reducible first | exact HB.out | apply below_alloc | apply pw_below_drewN | apply below_drew1 | refine below_set ?_ GE0.out | refine below_set ?_ GE105.out) | exact HB.out))); (case aF => exact (fun _ _ => trivial)); (case aO => exact (by (with_reducible repeat (first | apply Kd.R_alloc | apply Kd.R_drewN | apply Kd.R_drew)); exact Kd.R_mono (Kd.R_far (p := ⟨gb105, 2, none⟩) (Kd.R_far (p := ⟨gb105, 1, none⟩) (Kd.R_far (p := ⟨gb105, 0, none⟩) (Kd.R_types HO_5.out BK105.out (by decide)) (fun _ hk => hk.2) (.int .i8 ((rd_T68 l0_1 x6_1).f0))) (fun _ hk => hk.2) (.int .i16 ((rd_T68 l0_1 x6_1).f1))) (fun _ hk => hk.2) (.int .i16 ((rd_T68 l0_1 x6_1).f2))) (fun _ hk => trivial))); (case aS => exact (below_size (by repeat (first | (with_reducible first | exact HB.out | apply below_alloc | apply pw_below_drewN | apply below_drew1 | refine below_set ?_ GE0.out | refine below_set ?_ GE105.out) | exact HB.out)))); (case aL => have := LMc50.out; omega); intro v123 w55 ho hb hg hat; rw [← Ny122.out] at ho; have n0_ := Aside0.mk (blk_grown (g := gro0) (o := .cells #[.int .i8 a0_0, .slice (some ad104) l0_1.length c0_1, .slice A0_2 l0_2.length c0_2] 30 (0, 0)) (by (with_reducible repeat (first | refine blk_drewN ?_ _ | refine blk_drew ?_ | refine blk_alloc ?_ _)); refine blk_far ?_ NB0_105.out _; (with_reducible repeat (first | refine blk_drewN ?_ _ | refine blk_drew ?_ | refine blk_alloc ?_ _)); refine blk_far ?_ NB0_105.out _; (with_reducible repeat (first | refine blk_drewN ?_ _ | refine blk_drew ?_ | refine blk_alloc ?_ _)); refine blk_far ?_ NB0_105.out _; (with_reducible repeat (first | refine blk_drewN ?_ _ | refine blk_drew ?_ | refine blk_alloc ?_ _)); exact BK0.out) hg (Kd.R_ne HO_5.out BK0.out (by decide))); have n1_ := Aside0.mk (blk_grown (g := gb105) (o := .cells #[.int .i8 ((rd_T68 l0_1 x6_1).f0), .int .i16 ((rd_T68 l0_1 x6_1).f1), .int .i16 ((rd_T68 l0_1 x6_1).f2)] 68 (0, 0)) (by (with_reducible repeat (first | refine blk_drewN ?_ _ | refine blk_drew ?_ | refine blk_alloc ?_ _)); refine blk_put (cs := #[.int .i8 ((rd_T68 l0_1 x6_1).f0), .int .i16 ((rd_T68 l0_1 x6_1).f1), .int .i16 0]) ?_ 2 _ rfl; (with_reducible repeat (first | refine blk_drewN ?_ _ | refine blk_drew ?_ | refine blk_alloc ?_ _)); refine blk_put (cs := #[.int .i8 ((rd_T68 l0_1 x6_1).f0), .int .i16 0, .int .i16 0]) ?_ 1 _ rfl; (with_reducible repeat (first | refine blk_drewN ?_ _ | refine blk_drew ?_ | refine blk_alloc ?_ _)); refine blk_put (cs := #[.int .i8 0, .int .i16 0, .int .i16 0]) ?_ 0 _ rfl; (with_reducible repeat (first | refine blk_drewN ?_ _ | refine blk_drew ?_ | refine blk_alloc ?_ _)); exact BK105.out) hg (Kd.R_ne HO_5.out BK105.out (by decide))); have n2_ := Aside0.mk (hb); have n3_ := Aside0.mk (ho); clear BK0; clear BK105; clear HB; clear HO_5; have BK0 := n0_; have BK105 := n1_; have HB := n2_; have HO124 := n3_; clear n0_ n1_ n2_ n3_; clear ho hb hg hat))
                  repeat (go_quiet (first | ((with_reducible refine gate_dst (N := 7) rfl ?_); refine box_event ?hg (N := 7) ?hd (cs := #[.int .i8 0, .int .i16 0, .int .i16 0]) (t := 68) ?hr ?_; (case hd => rfl); (case hg => rfl); (case hr => first | (go_simp; done) | (go_simp; rfl)); intro gb105 hg w52 hbox hb; have n0_ := Aside0.mk (Kd.R_below (by (with_reducible repeat (first | apply Kd.R_alloc | apply Kd.R_drewN | apply Kd.R_drew)); exact HO_5.out) hb); have n1_ := Aside0.mk (blk_below (g := gro0) (o := .cells #[.int .i8 a0_0, .slice (some ad104) l0_1.length c0_1, .slice A0_2 l0_2.length c0_2] 30 (0, 0)) (by (with_reducible repeat (first | refine blk_drewN ?_ _ | refine blk_drew ?_ | refine blk_alloc ?_ _)); exact BK0.out) hb); have n2_ := Aside0.mk (below_step (by repeat (first | (with_reducible first | exact HB.out | apply below_alloc | apply pw_below_drewN | apply below_drew1 | refine below_set ?_ GE0.out) | exact HB.out)) hb); have n3_ := Aside0.mk (hbox); have n4_ := Aside0.mk ((by rw [hg]; exact (below_size (by repeat (first | (with_reducible first | exact HB.out | apply below_alloc | apply pw_below_drewN | apply below_drew1 | refine below_set ?_ GE0.out) | exact HB.out))) : w.heap.size ≤ gb105)); have n5_ := Aside0.mk ((by rw [hg]; exact (below_size (by repeat (first | (with_reducible first | exact HB.out | apply below_alloc | apply pw_below_drewN | apply below_drew1 | refine below_set ?_ GE0.out) | exact HB.out))) : w.heap.size ≤ gb105)); have n6_ := Aside0.mk ((by rw [hg]; exact Nat.ne_of_lt (blk_lt (g := gro0) (o := .cells #[.int .i8 a0_0, .slice (some ad104) l0_1.length c0_1, .slice A0_2 l0_2.length c0_2] 30 (0, 0)) (by (with_reducible repeat (first | refine blk_drewN ?_ _ | refine blk_drew ?_ | refine blk_alloc ?_ _)); exact BK0.out)) : gro0 ≠ gb105)); have n7_ := Aside0.mk ((by rw [hg]; exact Nat.ne_of_gt (blk_lt (g := gro0) (o := .cells #[.int .i8 a0_0, .slice (some ad104) l0_1.length c0_1, .slice A0_2 l0_2.length c0_2] 30 (0, 0)) (by (with_reducible repeat (first | refine blk_drewN ?_ _ | refine blk_drew ?_ | refine blk_alloc ?_ _)); exact BK0.out)) : gb105 ≠ gro0)); clear HO_5; clear BK0; clear HB; have HO_5 := n0_; have BK0 := n1_; have HB := n2_; have BK105 := n3_; have GW105 := n4_; have GE105 := n5_; have NB0_105 := n6_; have NB105_0 := n7_; clear n0_ n1_ n2_ n3_ n4_ n5_ n6_ n7_; clear hb hbox hg; have hnb53 := NB105_0.out; have hnc53 := NB0_105.out; have hcz54_0 : w52.cell? ⟨gb105, 0, none⟩ = some (.int .i8 0) := (blk_cell BK105.out 0).trans rfl; have hcz54_1 : w52.cell? ⟨gb105, 1, none⟩ = some (.int .i16 0) := (blk_cell BK105.out 1).trans rfl; have hcz54_2 : w52.cell? ⟨gb105, 2, none⟩ = some (.int .i16 0) := (blk_cell BK105.out 2).trans rfl; have hfz54_0 := blk_frozen BK105.out 0; have hfz54_1 := blk_frozen BK105.out 1; have hfz54_2 := blk_frozen BK105.out 2) | ((with_reducible refine gate_builtin (b := .append) (xs := #[.tmp 64, .tmp 66]) rfl ?_); at_builtin; refine Kd.R_append Kd.bool (w0 := w) w.heap.size rfl (.tmp 64) (.tmp 66) 81 4 (.bool false) 1 rfl Try.underlying81 info4 rfl (by decide) (by omega) u5 x5_1 true [.bool true] (fun _ => True) (fun _ => False) rfl (by first | (go_simp; done) | (go_simp; rfl)) ?aP (fun _ hk => hk.elim) ?aF ?aO ?aB ?aS ?aL ?_; (case aP => exact rfl); (case aB => exact (by repeat (first | (with_reducible first | exact HB.out | apply below_alloc | apply pw_below_drewN | apply below_drew1 | refine below_set ?_ GE0.out | refine below_set ?_ GE105.out) | exact HB.out))); (case aF => exact (fun _ _ => trivial)); (case aO => exact (by (with_reducible repeat (first | apply Kd.R_alloc | apply Kd.R_drewN | apply Kd.R_drew)); exact Kd.R_mono (Kd.R_far (p := ⟨gb105, 2, none⟩) (Kd.R_far (p := ⟨gb105, 1, none⟩) (Kd.R_far (p := ⟨gb105, 0, none⟩) (Kd.R_types HO_5.out BK105.out (by decide)) (fun _ hk => hk.2) (.int .i8 ((rd_T68 l0_1 x6_1).f0))) (fun _ hk => hk.2) (.int .i16 ((rd_T68 l0_1 x6_1).f1))) (fun _ hk => hk.2) (.int .i16 ((rd_T68 l0_1 x6_1).f2))) (fun _ hk => trivial))); (case aS => exact (below_size (by repeat (first | (with_reducible first | exact HB.out | apply below_alloc | apply pw_below_drewN | apply below_drew1 | refine below_set ?_ GE0.out | refine below_set ?_ GE105.out) | exact HB.out)))); (case aL => have := LMc50.out; omega); intro v123 w55 ho hb hg hat; rw [← Ny122.out] at ho; have n0_ := Aside0.mk (blk_grown (g := gro0) (o := .cells #[.int .i8 a0_0, .slice (some ad104) l0_1.length c0_1, .slice A0_2 l0_2.length c0_2] 30 (0, 0)) (by (with_reducible repeat (first | refine blk_drewN ?_ _ | refine blk_drew ?_ | refine blk_alloc ?_ _)); refine blk_far ?_ NB0_105.out _; (with_reducible repeat (first | refine blk_drewN ?_ _ | refine blk_drew ?_ | refine blk_alloc ?_ _)); refine blk_far ?_ NB0_105.out _; (with_reducible repeat (first | refine blk_drewN ?_ _ | refine blk_drew ?_ | refine blk_alloc ?_ _)); refine blk_far ?_ NB0_105.out _; (with_reducible repeat (first | refine blk_drewN ?_ _ | refine blk_drew ?_ | refine blk_alloc ?_ _)); exact BK0.out) hg (Kd.R_ne HO_5.out BK0.out (by decide))); have n1_ := Aside0.mk (blk_grown (g := gb105) (o := .cells #[.int .i8 ((rd_T68 l0_1 x6_1).f0), .int .i16 ((rd_T68 l0_1 x6_1).f1), .int .i16 ((rd_T68 l0_1 x6_1).f2)] 68 (0, 0)) (by (with_reducible repeat (first | refine blk_drewN ?_ _ | refine blk_drew ?_ | refine blk_alloc ?_ _)); refine blk_put (cs := #[.int .i8 ((rd_T68 l0_1 x6_1).f0), .int .i16 ((rd_T68 l0_1 x6_1).f1), .int .i16 0]) ?_ 2 _ rfl; (with_reducible repeat (first | refine blk_drewN ?_ _ | refine blk_drew ?_ | refine blk_alloc ?_ _)); refine blk_put (cs := #[.int .i8 ((rd_T68 l0_1 x6_1).f0), .int .i16 0, .int .i16 0]) ?_ 1 _ rfl; (with_reducible repeat (first | refine blk_drewN ?_ _ | refine blk_drew ?_ | refine blk_alloc ?_ _)); refine blk_put (cs := #[.int .i8 0, .int .i16 0, .int .i16 0]) ?_ 0 _ rfl; (with_reducible repeat (first | refine blk_drewN ?_ _ | refine blk_drew ?_ | refine blk_alloc ?_ _)); exact BK105.out) hg (Kd.R_ne HO_5.out BK105.out (by decide))); have n2_ := Aside0.mk (hb); have n3_ := Aside0.mk (ho); clear BK0; clear BK105; clear HB; clear HO_5; have BK0 := n0_; have BK105 := n1_; have HB := n2_; have HO124 := n3_; clear n0_ n1_ n2_ n3_; clear ho hb hg hat)); try go_wp2_with (first | ((with_reducible refine gate_dst (N := 7) rfl ?_); refine box_event ?hg (N := 7) ?hd (cs := #[.int .i8 0, .int .i16 0, .int .i16 0]) (t := 68) ?hr ?_; (case hd => rfl); (case hg => rfl); (case hr => first | (go_simp; done) | (go_simp; rfl)); intro gb105 hg w52 hbox hb; have n0_ := Aside0.mk (Kd.R_below (by (with_reducible repeat (first | apply Kd.R_alloc | apply Kd.R_drewN | apply Kd.R_drew)); exact HO_5.out) hb); have n1_ := Aside0.mk (blk_below (g := gro0) (o := .cells #[.int .i8 a0_0, .slice (some ad104) l0_1.length c0_1, .slice A0_2 l0_2.length c0_2] 30 (0, 0)) (by (with_reducible repeat (first | refine blk_drewN ?_ _ | refine blk_drew ?_ | refine blk_alloc ?_ _)); exact BK0.out) hb); have n2_ := Aside0.mk (below_step (by repeat (first | (with_reducible first | exact HB.out | apply below_alloc | apply pw_below_drewN | apply below_drew1 | refine below_set ?_ GE0.out) | exact HB.out)) hb); have n3_ := Aside0.mk (hbox); have n4_ := Aside0.mk ((by rw [hg]; exact (below_size (by repeat (first | (with_reducible first | exact HB.out | apply below_alloc | apply pw_below_drewN | apply below_drew1 | refine below_set ?_ GE0.out) | exact HB.out))) : w.heap.size ≤ gb105)); have n5_ := Aside0.mk ((by rw [hg]; exact (below_size (by repeat (first | (with_reducible first | exact HB.out | apply below_alloc | apply pw_below_drewN | apply below_drew1 | refine below_set ?_ GE0.out) | exact HB.out))) : w.heap.size ≤ gb105)); have n6_ := Aside0.mk ((by rw [hg]; exact Nat.ne_of_lt (blk_lt (g := gro0) (o := .cells #[.int .i8 a0_0, .slice (some ad104) l0_1.length c0_1, .slice A0_2 l0_2.length c0_2] 30 (0, 0)) (by (with_reducible repeat (first | refine blk_drewN ?_ _ | refine blk_drew ?_ | refine blk_alloc ?_ _)); exact BK0.out)) : gro0 ≠ gb105)); have n7_ := Aside0.mk ((by rw [hg]; exact Nat.ne_of_gt (blk_lt (g := gro0) (o := .cells #[.int .i8 a0_0, .slice (some ad104) l0_1.length c0_1, .slice A0_2 l0_2.length c0_2] 30 (0, 0)) (by (with_reducible repeat (first | refine blk_drewN ?_ _ | refine blk_drew ?_ | refine blk_alloc ?_ _)); exact BK0.out)) : gb105 ≠ gro0)); clear HO_5; clear BK0; clear HB; have HO_5 := n0_; have BK0 := n1_; have HB := n2_; have BK105 := n3_; have GW105 := n4_; have GE105 := n5_; have NB0_105 := n6_; have NB105_0 := n7_; clear n0_ n1_ n2_ n3_ n4_ n5_ n6_ n7_; clear hb hbox hg; have hnb53 := NB105_0.out; have hnc53 := NB0_105.out; have hcz54_0 : w52.cell? ⟨gb105, 0, none⟩ = some (.int .i8 0) := (blk_cell BK105.out 0).trans rfl; have hcz54_1 : w52.cell? ⟨gb105, 1, none⟩ = some (.int .i16 0) := (blk_cell BK105.out 1).trans rfl; have hcz54_2 : w52.cell? ⟨gb105, 2, none⟩ = some (.int .i16 0) := (blk_cell BK105.out 2).trans rfl; have hfz54_0 := blk_frozen BK105.out 0; have hfz54_1 := blk_frozen BK105.out 1; have hfz54_2 := blk_frozen BK105.out 2) | ((with_reducible refine gate_builtin (b := .append) (xs := #[.tmp 64, .tmp 66]) rfl ?_); at_builtin; refine Kd.R_append Kd.bool (w0 := w) w.heap.size rfl (.tmp 64) (.tmp 66) 81 4 (.bool false) 1 rfl Try.underlying81 info4 rfl (by decide) (by omega) u5 x5_1 true [.bool true] (fun _ => True) (fun _ => False) rfl (by first | (go_simp; done) | (go_simp; rfl)) ?aP (fun _ hk => hk.elim) ?aF ?aO ?aB ?aS ?aL ?_; (case aP => exact rfl); (case aB => exact (by repeat (first | (with_reducible first | exact HB.out | apply below_alloc | apply pw_below_drewN | apply below_drew1 | refine below_set ?_ GE0.out | refine below_set ?_ GE105.out) | exact HB.out))); (case aF => exact (fun _ _ => trivial)); (case aO => exact (by (with_reducible repeat (first | apply Kd.R_alloc | apply Kd.R_drewN | apply Kd.R_drew)); exact Kd.R_mono (Kd.R_far (p := ⟨gb105, 2, none⟩) (Kd.R_far (p := ⟨gb105, 1, none⟩) (Kd.R_far (p := ⟨gb105, 0, none⟩) (Kd.R_types HO_5.out BK105.out (by decide)) (fun _ hk => hk.2) (.int .i8 ((rd_T68 l0_1 x6_1).f0))) (fun _ hk => hk.2) (.int .i16 ((rd_T68 l0_1 x6_1).f1))) (fun _ hk => hk.2) (.int .i16 ((rd_T68 l0_1 x6_1).f2))) (fun _ hk => trivial))); (case aS => exact (below_size (by repeat (first | (with_reducible first | exact HB.out | apply below_alloc | apply pw_below_drewN | apply below_drew1 | refine below_set ?_ GE0.out | refine below_set ?_ GE105.out) | exact HB.out)))); (case aL => have := LMc50.out; omega); intro v123 w55 ho hb hg hat; rw [← Ny122.out] at ho; have n0_ := Aside0.mk (blk_grown (g := gro0) (o := .cells #[.int .i8 a0_0, .slice (some ad104) l0_1.length c0_1, .slice A0_2 l0_2.length c0_2] 30 (0, 0)) (by (with_reducible repeat (first | refine blk_drewN ?_ _ | refine blk_drew ?_ | refine blk_alloc ?_ _)); refine blk_far ?_ NB0_105.out _; (with_reducible repeat (first | refine blk_drewN ?_ _ | refine blk_drew ?_ | refine blk_alloc ?_ _)); refine blk_far ?_ NB0_105.out _; (with_reducible repeat (first | refine blk_drewN ?_ _ | refine blk_drew ?_ | refine blk_alloc ?_ _)); refine blk_far ?_ NB0_105.out _; (with_reducible repeat (first | refine blk_drewN ?_ _ | refine blk_drew ?_ | refine blk_alloc ?_ _)); exact BK0.out) hg (Kd.R_ne HO_5.out BK0.out (by decide))); have n1_ := Aside0.mk (blk_grown (g := gb105) (o := .cells #[.int .i8 ((rd_T68 l0_1 x6_1).f0), .int .i16 ((rd_T68 l0_1 x6_1).f1), .int .i16 ((rd_T68 l0_1 x6_1).f2)] 68 (0, 0)) (by (with_reducible repeat (first | refine blk_drewN ?_ _ | refine blk_drew ?_ | refine blk_alloc ?_ _)); refine blk_put (cs := #[.int .i8 ((rd_T68 l0_1 x6_1).f0), .int .i16 ((rd_T68 l0_1 x6_1).f1), .int .i16 0]) ?_ 2 _ rfl; (with_reducible repeat (first | refine blk_drewN ?_ _ | refine blk_drew ?_ | refine blk_alloc ?_ _)); refine blk_put (cs := #[.int .i8 ((rd_T68 l0_1 x6_1).f0), .int .i16 0, .int .i16 0]) ?_ 1 _ rfl; (with_reducible repeat (first | refine blk_drewN ?_ _ | refine blk_drew ?_ | refine blk_alloc ?_ _)); refine blk_put (cs := #[.int .i8 0, .int .i16 0, .int .i16 0]) ?_ 0 _ rfl; (with_reducible repeat (first | refine blk_drewN ?_ _ | refine blk_drew ?_ | refine blk_alloc ?_ _)); exact BK105.out) hg (Kd.R_ne HO_5.out BK105.out (by decide))); have n2_ := Aside0.mk (hb); have n3_ := Aside0.mk (ho); clear BK0; clear BK105; clear HB; clear HO_5; have BK0 := n0_; have BK105 := n1_; have HB := n2_; have HO124 := n3_; clear n0_ n1_ n2_ n3_; clear ho hb hg hat)))
                  go_roundg k1
                  case measure => have := HK1.out; omega
                  case rel => exact ⟨(y122), (wrap64 (x6_1 + 1)), (by first | rfl | (simp; done) | (simp [*]; done)), H', ⟨by have := HK1.out; omega⟩, ⟨by (with_reducible repeat (first | apply Kd.R_alloc | apply Kd.R_drewN | apply Kd.R_drew)); exact HO124.out⟩, ⟨by (with_reducible repeat (first | refine blk_drewN ?_ _ | refine blk_drew ?_ | refine blk_alloc ?_ _)); exact BK0.out⟩, ⟨by repeat (first | (with_reducible first | exact HB.out | apply below_alloc | apply pw_below_drewN | apply below_drew1 | refine below_set ?_ GE0.out | refine below_set ?_ GE105.out) | exact HB.out)⟩⟩
                · rw [if_neg c50] at H
                  exact absurd H (by simp)
        · rw [if_neg c6] at H
          exact absurd H (by simp)
      · rw [if_neg c5] at H
        have c5b0 : decide (x6_1 < (l0_1.length : Int)) = false := decide_eq_false c5
        clear c5
        obtain rfl := Option.some.inj H
        have hcz56_0 : wr.cell? ⟨gro0, 0, none⟩ = some (.int .i8 a0_0) := (blk_cell BK0.out 0).trans rfl
        have hcz56_1 : wr.cell? ⟨gro0, 1, none⟩ = some (.slice A0_1 l0_1.length c0_1) := (blk_cell BK0.out 1).trans rfl
        have hcz56_2 : wr.cell? ⟨gro0, 2, none⟩ = some (.slice A0_2 l0_2.length c0_2) := (blk_cell BK0.out 2).trans rfl
        have hfz56_0 := blk_frozen BK0.out 0
        have hfz56_1 := blk_frozen BK0.out 1
        have hfz56_2 := blk_frozen BK0.out 2
        go_wp2
        repeat (go_quiet (fail); try go_wp2)
        go_ret
        exact ⟨_, by first | rfl | (simp [errW_none, errW_some] <;> rfl) | (simp [*, errW_none, errW_some] <;> rfl), by (with_reducible repeat (first | apply Kd.R_alloc | apply Kd.R_drewN | apply Kd.R_drew)); exact HO_5.out, by repeat (first | (with_reducible first | exact HB.out | apply below_alloc | apply pw_below_drewN | apply below_drew1 | refine below_set ?_ GE0.out) | exact HB.out)⟩
end Go.Proofs.Yteanndgkjoinmaa.X

-- Laid by wip/xprint.py of this session (the kit's print program, with some contracts given by hand). Not trusted: Lean checks it.
namespace Go.Proofs.Yteanndgkjoinmaa.X
open Go.RowKit Go.Proofs.YteanndgkjoinmaaW.PrintWords Go.Proofs.YteanndgkjoinmaaW.PrintLast Go.Proofs.YteanndgkjoinmaaW.PrintMore
attribute [local go_sem] max2_int min2_int max_two min_two max_three min_three max_four min_four
set_option linter.unusedVariables false
set_option linter.unusedSimpArgs false
def spec_l07Run.l0 : Nat → List Bool → Int → Int → Int → List (S68) → List Int → Option (Int)
  | 0, _, _, _, _, _, _ => none
  | k + 1, x5, x6, x7, x1000, x1001, x1002 => if x7 < (x1002.length : Int) then (if 0 ≤ x7 then (if 0 ≤ (rd x1002 x7) then (if (rd x1002 x7) < (x5.length : Int) then (if rdOf false x5 (rd x1002 x7) = true then (if 0 ≤ (IntKind.u64.wrap (x7)) then (spec_l07Run.l0 k x5 (Go.bits .or .u16 x6 (shl .u16 1 (IntKind.u64.wrap (x7)))) (wrap64 (x7 + 1)) x1000 x1001 x1002) else (none)) else (spec_l07Run.l0 k x5 x6 (wrap64 (x7 + 1)) x1000 x1001 x1002)) else (none)) else (none)) else (none)) else (some x6)
def spec_l07Run.f (k : Nat) (a0_0 : Int) (l0_1 : List (S68)) (l0_2 : List Int) (a1 : Int) : Option (Int) := (spec_l07Values.f k a0_0 l0_1 l0_2 a1).bind fun t101 => (spec_l07Run.l0 k t101 0 0 a0_0 l0_1 l0_2)
set_option maxHeartbeats 8000000 in
set_option maxRecDepth 100000 in
theorem spec_l07Run.calls (k : Nat) (gro0 : Nat) (a0_0 : Int) (A0_1 : Option Addr) (c0_1 : Nat) (l0_1 : List (S68)) (A0_2 : Option Addr) (c0_2 : Nat) (l0_2 : List Int) (a1 : Int) (r : Int) (w : World) (hbk0 : w.heap[gro0]? = some (.cells #[.int .i8 a0_0, .slice A0_1 l0_1.length c0_1, .slice A0_2 l0_2.length c0_2] 30 (0, 0))) (hr0_1 : Kd.C k68 w A0_1 l0_1.length l0_1) (hc0_1 : l0_1.length ≤ c0_1) (hr0_2 : Kd.C (Kd.int .i16) w A0_2 l0_2.length l0_2) (hc0_2 : l0_2.length ≤ c0_2) (h : spec_l07Run.f k a0_0 l0_1 l0_2 a1 = some r) :
    Calls Try.prog 93 #[.pointer (some ⟨gro0, 0, none⟩), .int .u16 a1] w fun e w' => e = .returned (.int .u16 r) ∧ Below w.heap.size w w' := by
  have HR0_1 := Aside0.mk hr0_1
  have HC0_1 := Aside0.mk hc0_1
  clear hr0_1 hc0_1
  have HR0_2 := Aside0.mk hr0_2
  have HC0_2 := Aside0.mk hc0_2
  clear hr0_2 hc0_2
  have BK0 := Aside0.mk hbk0
  clear hbk0
  have HB := Aside0.mk (Below.refl w.heap.size w)
  have H : ((spec_l07Values.f k a0_0 l0_1 l0_2 a1).bind fun t101 => (spec_l07Run.l0 k t101 0 0 a0_0 l0_1 l0_2)) = some r := h
  clear h
  replace H := Option.bind_eq_some_iff.mp H
  obtain ⟨t101, A30, H⟩ := H
  replace H : (spec_l07Run.l0 k t101 0 0 a0_0 l0_1 l0_2) = some r := H
  have A3 := Aside0.mk A30
  clear A30
  have H' := Aside0.mk H
  clear H
  go_enter Try.func93, Try.ntmps93
  go_wp2_with (first | ((with_reducible refine gate_callee (f := 101) rfl ?_); refine goesL_ (some 10) rfl rfl Try.func101 (by kernel_rfl) rfl #[.pointer (some ⟨gro0, 0, none⟩), .int .u16 a1] rfl (by (try simp only [List.map_toArray, List.map_cons, List.map_nil]); first | done | rfl | (simp only [List.length_drop, List.length_take]; rfl)) ?_; (with_reducible refine (spec_l07Values.calls k gro0 a0_0 A0_1 c0_1 l0_1 A0_2 c0_2 l0_2 a1 t101 _ ?side1 ?side2 ?side3 ?side4 ?side5 A3.out).mono ?_); (case side1 => (with_reducible repeat (first | refine blk_drewN ?_ _ | refine blk_drew ?_ | refine blk_alloc ?_ _)); exact BK0.out); (case side2 => repeat (first | exact HR0_1.out | (with_reducible refine Kd.C_alloc ?_ _) | (with_reducible refine Kd.C_drewN ?_ _) | (with_reducible refine Kd.C_drew ?_))); (case side3 => exact HC0_1.out); (case side4 => repeat (first | exact HR0_2.out | (with_reducible refine Kd.C_alloc ?_ _) | (with_reducible refine Kd.C_drewN ?_ _) | (with_reducible refine Kd.C_drew ?_))); (case side5 => exact HC0_2.out); rintro e w4 ⟨v102, rfl, ho0, hb⟩; refine ⟨_, rfl, ?_⟩; have n0_ := Aside0.mk (Kd.R_lower ho0 (below_size (by repeat (first | (with_reducible first | exact HB.out | apply below_alloc | apply pw_below_drewN | apply below_drew1 | refine below_set ?_ GE0.out) | exact HB.out)))); have n1_ := Aside0.mk (blk_below (g := gro0) (o := .cells #[.int .i8 a0_0, .slice A0_1 l0_1.length c0_1, .slice A0_2 l0_2.length c0_2] 30 (0, 0)) (by (with_reducible repeat (first | refine blk_drewN ?_ _ | refine blk_drew ?_ | refine blk_alloc ?_ _)); exact BK0.out) hb); have n2_ := Aside0.mk (below_step (by repeat (first | (with_reducible first | exact HB.out | apply below_alloc | apply pw_below_drewN | apply below_drew1 | refine below_set ?_ GE0.out) | exact HB.out)) hb); clear BK0; clear HB; have HO103 := n0_; have BK0 := n1_; have HB := n2_; clear n0_ n1_ n2_; (try clear hb); (try clear hb2); (try clear hk); (try clear hi); (try clear ho0)))
  go_loopg [6, 7] k (fun kq v6 v7 w' => ∃ (x6_1 : Int) (x7_1 : Int), v6 = .int .u16 x6_1 ∧ v7 = .int .i64 x7_1 ∧ Aside0 (spec_l07Run.l0 kq t101 x6_1 x7_1 a0_0 l0_1 l0_2 = some r) ∧ Aside0 (kq ≤ k) ∧ Aside0 (Kd.R Kd.bool 4 w' w.heap.size (fun _ => True) v102 t101) ∧ Aside0 (w'.heap[gro0]? = some (.cells #[.int .i8 a0_0, (.slice A0_1 l0_1.length c0_1), (.slice A0_2 l0_2.length c0_2)] 30 (0, 0))) ∧ Aside0 (Below w.heap.size w w'))
  case atStart => exact ⟨(0), (0), (by first | rfl | (simp; done) | (simp [*]; done)), (by first | rfl | (simp; done) | (simp [*]; done)), H', ⟨Nat.le_refl _⟩, ⟨by (with_reducible repeat (first | apply Kd.R_alloc | apply Kd.R_drewN | apply Kd.R_drew)); exact HO103.out⟩, ⟨by (with_reducible repeat (first | refine blk_drewN ?_ _ | refine blk_drew ?_ | refine blk_alloc ?_ _)); exact BK0.out⟩, ⟨by repeat (first | (with_reducible first | exact HB.out | apply below_alloc | apply pw_below_drewN | apply below_drew1 | refine below_set ?_ GE0.out) | exact HB.out)⟩⟩
  case round =>
    clear H'
    try clear c1
    try clear p2
    obtain ⟨x6_1, x7_1, rfl, rfl, HA, HK1, HO_5, BK0, HB⟩ := hrel
    cases gk with
    | zero => exact absurd HA.out (by simp [spec_l07Run.l0])
    | succ k1 =>
      have H := HA.out
      clear HA
      simp only [spec_l07Run.l0] at H
      by_cases c5 : x7_1 < (l0_2.length : Int)
      · rw [if_pos c5] at H
        have c5b0 : decide (x7_1 < (l0_2.length : Int)) = true := decide_eq_true c5
        clear c5
        by_cases c6 : 0 ≤ x7_1
        · rw [if_pos c6] at H
          have c6b0 : decide (0 ≤ x7_1) = true := decide_eq_true c6
          clear c6
          by_cases c7 : 0 ≤ (rd l0_2 x7_1)
          · rw [if_pos c7] at H
            have c7b0 : decide (0 ≤ (rd l0_2 x7_1)) = true := decide_eq_true c7
            clear c7
            by_cases c8 : (rd l0_2 x7_1) < (t101.length : Int)
            · rw [if_pos c8] at H
              have c8b0 : decide ((rd l0_2 x7_1) < (t101.length : Int)) = true := decide_eq_true c8
              clear c8
              obtain ⟨bq9, hbq9⟩ : ∃ b_ : Bool, b_ = (rdOf false t101 (rd l0_2 x7_1)) := ⟨_, rfl⟩
              replace H : (if bq9 = true then (if 0 ≤ (IntKind.u64.wrap (x7_1)) then (spec_l07Run.l0 k1 t101 (Go.bits .or .u16 x6_1 (shl .u16 1 (IntKind.u64.wrap (x7_1)))) (wrap64 (x7_1 + 1)) a0_0 l0_1 l0_2) else (none)) else (spec_l07Run.l0 k1 t101 x6_1 (wrap64 (x7_1 + 1)) a0_0 l0_1 l0_2)) = some r := by rw [← hbq9] at H; exact H
              have Nbq9 := Aside0.mk hbq9
              clear hbq9
              by_cases c10 : bq9 = true
              · subst c10
                have H1 : (if 0 ≤ (IntKind.u64.wrap (x7_1)) then (spec_l07Run.l0 k1 t101 (Go.bits .or .u16 x6_1 (shl .u16 1 (IntKind.u64.wrap (x7_1)))) (wrap64 (x7_1 + 1)) a0_0 l0_1 l0_2) else (none)) = some r := by rw [if_pos rfl] at H; exact H
                clear H
                have H := H1
                clear H1
                obtain ⟨ji11, hji11⟩ : ∃ j_ : Int, (IntKind.u64.wrap (x7_1)) = j_ := ⟨_, rfl⟩
                replace H : (if 0 ≤ (ji11) then (spec_l07Run.l0 k1 t101 (Go.bits .or .u16 x6_1 (shl .u16 1 (ji11))) (wrap64 (x7_1 + 1)) a0_0 l0_1 l0_2) else (none)) = some r := by first | (rw [hji11] at H; exact H) | (simp only [hji11] at H ⊢; exact H)
                by_cases c12 : 0 ≤ (ji11)
                · rw [if_pos c12] at H
                  have c12b0 := eq_true c12
                  have c12b1 : decide (0 ≤ (ji11)) = true := decide_eq_true c12
                  clear c12
                  obtain ⟨ji13, hji13⟩ : ∃ j_ : Int, (shl .u16 1 (ji11)) = j_ := ⟨_, rfl⟩
                  replace H : (spec_l07Run.l0 k1 t101 (Go.bits .or .u16 x6_1 (ji13)) (wrap64 (x7_1 + 1)) a0_0 l0_1 l0_2) = some r := by first | (rw [hji13] at H; exact H) | (simp only [hji13] at H ⊢; exact H)
                  have hji13_ : (IntKind.u16.wrap (1 * 2 ^ min (ji11).toNat 16)) = ji13 := hji13
                  have hji13z : (ji11) ≤ 16 → (IntKind.u16.wrap (1 * 2 ^ (ji11).toNat)) = ji13 := shl_small hji13
                  have hji13u : (IntKind.u16.wrap (2 ^ min (ji11).toNat 16)) = ji13 := by have h_ := hji13_; rw [Int.one_mul] at h_; exact h_
                  have hji13v : (ji11) ≤ 16 → (IntKind.u16.wrap (2 ^ (ji11).toNat)) = ji13 := fun hle_ => by have h_ := hji13z hle_; rw [Int.one_mul] at h_; exact h_
                  have H' := Aside0.mk H
                  clear H
                  have hcz14_0 : wr.cell? ⟨gro0, 0, none⟩ = some (.int .i8 a0_0) := (blk_cell BK0.out 0).trans rfl
                  have hcz14_1 : wr.cell? ⟨gro0, 1, none⟩ = some (.slice A0_1 l0_1.length c0_1) := (blk_cell BK0.out 1).trans rfl
                  have hcz14_2 : wr.cell? ⟨gro0, 2, none⟩ = some (.slice A0_2 l0_2.length c0_2) := (blk_cell BK0.out 2).trans rfl
                  have hfz14_0 := blk_frozen BK0.out 0
                  have hfz14_1 := blk_frozen BK0.out 1
                  have hfz14_2 := blk_frozen BK0.out 2
                  have p104 : 0 ≤ (x7_1 : Int) := of_decide_eq_true (by first | (with_reducible assumption) | assumption)
                  have q104 : x7_1 < (l0_2.length : Int) := of_decide_eq_true (by first | (with_reducible assumption) | assumption)
                  obtain ⟨ad104, e104, hx104_0⟩ := Kd.at_int HR0_2.out x7_1 p104 q104
                  cases e104
                  replace hx104_0 := (HB.out.cell (World.block_lt_of_cell? w _ hx104_0)).trans hx104_0
                  replace p104 := eq_true p104
                  replace q104 := eq_true q104
                  obtain ⟨Ao15, co15, eo15⟩ := Kd.R_slice HO_5.out
                  subst eo15
                  have p105 : 0 ≤ ((rd l0_2 x7_1) : Int) := of_decide_eq_true (by first | (with_reducible assumption) | assumption)
                  have q105 : (rd l0_2 x7_1) < (t101.length : Int) := of_decide_eq_true (by first | (with_reducible assumption) | assumption)
                  obtain ⟨ad105, e105, hx105_0⟩ := Kd.at_bool (Kd.R_reads' HO_5.out).2.2 (rd l0_2 x7_1) p105 q105
                  (try rw [← Nbq9.out] at hx105_0)
                  cases e105
                  replace p105 := eq_true p105
                  replace q105 := eq_true q105
                  go_wp2
                  go_roundg k1
                  case measure => have := HK1.out; omega
                  case rel => exact ⟨(Go.bits .or .u16 x6_1 (ji13)), (wrap64 (x7_1 + 1)), (by first | rfl | (simp; done) | (simp only [← hji13] <;> (first | rfl | simp)) | (simp [*]; done)), (by first | rfl | (simp; done) | (simp [*]; done)), H', ⟨by have := HK1.out; omega⟩, ⟨by (with_reducible repeat (first | apply Kd.R_alloc | apply Kd.R_drewN | apply Kd.R_drew)); exact HO_5.out⟩, ⟨by (with_reducible repeat (first | refine blk_drewN ?_ _ | refine blk_drew ?_ | refine blk_alloc ?_ _)); exact BK0.out⟩, ⟨by repeat (first | (with_reducible first | exact HB.out | apply below_alloc | apply pw_below_drewN | apply below_drew1 | refine below_set ?_ GE0.out) | exact HB.out)⟩⟩
                · rw [if_neg c12] at H
                  exact absurd H (by simp)
              · replace c10 := Bool.eq_false_iff.mpr c10
                subst c10
                have H1 : (spec_l07Run.l0 k1 t101 x6_1 (wrap64 (x7_1 + 1)) a0_0 l0_1 l0_2) = some r := by rw [if_neg (show ¬ (false = true) by decide)] at H; exact H
                clear H
                have H := H1
                clear H1
                have H' := Aside0.mk H
                clear H
                have hcz16_0 : wr.cell? ⟨gro0, 0, none⟩ = some (.int .i8 a0_0) := (blk_cell BK0.out 0).trans rfl
                have hcz16_1 : wr.cell? ⟨gro0, 1, none⟩ = some (.slice A0_1 l0_1.length c0_1) := (blk_cell BK0.out 1).trans rfl
                have hcz16_2 : wr.cell? ⟨gro0, 2, none⟩ = some (.slice A0_2 l0_2.length c0_2) := (blk_cell BK0.out 2).trans rfl
                have hfz16_0 := blk_frozen BK0.out 0
                have hfz16_1 := blk_frozen BK0.out 1
                have hfz16_2 := blk_frozen BK0.out 2
                have p104 : 0 ≤ (x7_1 : Int) := of_decide_eq_true (by first | (with_reducible assumption) | assumption)
                have q104 : x7_1 < (l0_2.length : Int) := of_decide_eq_true (by first | (with_reducible assumption) | assumption)
                obtain ⟨ad104, e104, hx104_0⟩ := Kd.at_int HR0_2.out x7_1 p104 q104
                cases e104
                replace hx104_0 := (HB.out.cell (World.block_lt_of_cell? w _ hx104_0)).trans hx104_0
                replace p104 := eq_true p104
                replace q104 := eq_true q104
                obtain ⟨Ao17, co17, eo17⟩ := Kd.R_slice HO_5.out
                subst eo17
                have p105 : 0 ≤ ((rd l0_2 x7_1) : Int) := of_decide_eq_true (by first | (with_reducible assumption) | assumption)
                have q105 : (rd l0_2 x7_1) < (t101.length : Int) := of_decide_eq_true (by first | (with_reducible assumption) | assumption)
                obtain ⟨ad105, e105, hx105_0⟩ := Kd.at_bool (Kd.R_reads' HO_5.out).2.2 (rd l0_2 x7_1) p105 q105
                (try rw [← Nbq9.out] at hx105_0)
                cases e105
                replace p105 := eq_true p105
                replace q105 := eq_true q105
                go_wp2
                go_roundg k1
                case measure => have := HK1.out; omega
                case rel => exact ⟨(x6_1), (wrap64 (x7_1 + 1)), (by first | rfl | (simp; done) | (simp [*]; done)), (by first | rfl | (simp; done) | (simp [*]; done)), H', ⟨by have := HK1.out; omega⟩, ⟨by (with_reducible repeat (first | apply Kd.R_alloc | apply Kd.R_drewN | apply Kd.R_drew)); exact HO_5.out⟩, ⟨by (with_reducible repeat (first | refine blk_drewN ?_ _ | refine blk_drew ?_ | refine blk_alloc ?_ _)); exact BK0.out⟩, ⟨by repeat (first | (with_reducible first | exact HB.out | apply below_alloc | apply pw_below_drewN | apply below_drew1 | refine below_set ?_ GE0.out) | exact HB.out)⟩⟩
            · rw [if_neg c8] at H
              exact absurd H (by simp)
          · rw [if_neg c7] at H
            exact absurd H (by simp)
        · rw [if_neg c6] at H
          exact absurd H (by simp)
      · rw [if_neg c5] at H
        have c5b0 : decide (x7_1 < (l0_2.length : Int)) = false := decide_eq_false c5
        clear c5
        obtain rfl := Option.some.inj H
        have hcz18_0 : wr.cell? ⟨gro0, 0, none⟩ = some (.int .i8 a0_0) := (blk_cell BK0.out 0).trans rfl
        have hcz18_1 : wr.cell? ⟨gro0, 1, none⟩ = some (.slice A0_1 l0_1.length c0_1) := (blk_cell BK0.out 1).trans rfl
        have hcz18_2 : wr.cell? ⟨gro0, 2, none⟩ = some (.slice A0_2 l0_2.length c0_2) := (blk_cell BK0.out 2).trans rfl
        have hfz18_0 := blk_frozen BK0.out 0
        have hfz18_1 := blk_frozen BK0.out 1
        have hfz18_2 := blk_frozen BK0.out 2
        go_wp2
        go_ret
        exact ⟨by first | rfl | (simp [errW_none, errW_some] <;> rfl) | (simp [*, errW_none, errW_some] <;> rfl), by repeat (first | (with_reducible first | exact HB.out | apply below_alloc | apply pw_below_drewN | apply below_drew1 | refine below_set ?_ GE0.out) | exact HB.out)⟩
end Go.Proofs.Yteanndgkjoinmaa.X

-- Laid by wip/xprint.py of this session (the kit's print program, with some contracts given by hand). Not trusted: Lean checks it.
namespace Go.Proofs.Yteanndgkjoinmaa.X
open Go.RowKit Go.Proofs.YteanndgkjoinmaaW.PrintWords Go.Proofs.YteanndgkjoinmaaW.PrintLast Go.Proofs.YteanndgkjoinmaaW.PrintMore
attribute [local go_sem] max2_int min2_int max_two min_two max_three min_three max_four min_four
set_option linter.unusedVariables false
set_option linter.unusedSimpArgs false
mutual
def spec_l07Wrong.l0 : Nat → Int → Int → Int → Int → List (S68) → List Int → Option (Int × Int × Bool)
  | 0, _, _, _, _, _, _ => none
  | k + 1, x1, x9, x10, x1000, x1001, x1002 => if 0 ≤ x9 then (if (shr .u16 x10 x9) = 0 then (spec_l07Wrong.l1 k x1 x9 x10 0 x1000 x1001 x1002) else (some (0, 0, false))) else (none)
def spec_l07Wrong.l1 : Nat → Int → Int → Int → Int → Int → List (S68) → List Int → Option (Int × Int × Bool)
  | 0, _, _, _, _, _, _, _ => none
  | k + 1, x1, x9, x10, x11, x1000, x1001, x1002 => if 0 ≤ x9 then (if (shr .u16 x11 x9) = 0 then (if x1 = 1 then ((spec_l01Times.f x10 x11).bind fun t102 => ((spec_l07Run.f k x1000 x1001 x1002 (Go.bits .or .u16 x10 (shl .u16 x11 x9))).bind fun t103 => (if t103 = t102 then (spec_l07Wrong.l1 k x1 x9 x10 (IntKind.u16.wrap (x11 + 1)) x1000 x1001 x1002) else (some (x10, x11, true))))) else ((spec_l07Run.f k x1000 x1001 x1002 (Go.bits .or .u16 x10 (shl .u16 x11 x9))).bind fun t104 => (if t104 = (Go.bits .xor .u16 x10 x11) then (spec_l07Wrong.l1 k x1 x9 x10 (IntKind.u16.wrap (x11 + 1)) x1000 x1001 x1002) else (some (x10, x11, true))))) else (spec_l07Wrong.l0 k x1 x9 (IntKind.u16.wrap (x10 + 1)) x1000 x1001 x1002)) else (none)
end
def spec_l07Wrong.f (k : Nat) (a0_0 : Int) (l0_1 : List (S68)) (l0_2 : List Int) (a1 : Int) (a2 : Int) : Option (Int × Int × Bool) := (spec_l07Bits.f a2).bind fun t101 => (spec_l07Wrong.l0 k a1 (IntKind.u64.wrap (t101)) 0 a0_0 l0_1 l0_2)
set_option maxHeartbeats 8000000 in
set_option maxRecDepth 100000 in
theorem spec_l07Wrong.calls (k : Nat) (gro0 : Nat) (a0_0 : Int) (A0_1 : Option Addr) (c0_1 : Nat) (l0_1 : List (S68)) (A0_2 : Option Addr) (c0_2 : Nat) (l0_2 : List Int) (a1 : Int) (a2 : Int) (r1 : Int) (r2 : Int) (r3 : Bool) (w : World) (hbk0 : w.heap[gro0]? = some (.cells #[.int .i8 a0_0, .slice A0_1 l0_1.length c0_1, .slice A0_2 l0_2.length c0_2] 30 (0, 0))) (hr0_1 : Kd.C k68 w A0_1 l0_1.length l0_1) (hc0_1 : l0_1.length ≤ c0_1) (hr0_2 : Kd.C (Kd.int .i16) w A0_2 l0_2.length l0_2) (hc0_2 : l0_2.length ≤ c0_2) (h : spec_l07Wrong.f k a0_0 l0_1 l0_2 a1 a2 = some (r1, r2, r3)) :
    Calls Try.prog 66 #[.pointer (some ⟨gro0, 0, none⟩), .int .i64 a1, .int .i64 a2] w fun e w' => e = .returned (.tuple #[.int .u16 r1, .int .u16 r2, .bool r3]) ∧ Below w.heap.size w w' := by
  have HR0_1 := Aside0.mk hr0_1
  have HC0_1 := Aside0.mk hc0_1
  clear hr0_1 hc0_1
  have HR0_2 := Aside0.mk hr0_2
  have HC0_2 := Aside0.mk hc0_2
  clear hr0_2 hc0_2
  have BK0 := Aside0.mk hbk0
  clear hbk0
  have HB := Aside0.mk (Below.refl w.heap.size w)
  have H : ((spec_l07Bits.f a2).bind fun t101 => (spec_l07Wrong.l0 k a1 (IntKind.u64.wrap (t101)) 0 a0_0 l0_1 l0_2)) = some (r1, r2, r3) := h
  clear h
  replace H := Option.bind_eq_some_iff.mp H
  obtain ⟨t101, A40, H⟩ := H
  replace H : (spec_l07Wrong.l0 k a1 (IntKind.u64.wrap (t101)) 0 a0_0 l0_1 l0_2) = some (r1, r2, r3) := H
  have A4 := Aside0.mk A40
  clear A40
  have H' := Aside0.mk H
  clear H
  go_enter Try.func66, Try.ntmps66
  go_wp2_with (first | ((with_reducible refine gate_callee (f := 72) rfl ?_); refine goesL_ (some 14) rfl rfl Try.func72 (by kernel_rfl) rfl #[.int .i64 a2] rfl (by (try simp only [List.map_toArray, List.map_cons, List.map_nil]); first | done | rfl | (simp only [List.length_drop, List.length_take]; rfl)) ?_; (with_reducible refine (spec_l07Bits.calls a2 t101 _ A4.out).mono ?_); rintro e w' ⟨rfl, ⟨nd, rfl⟩⟩; refine ⟨_, rfl, ?_⟩))
  go_loopg [10] k (fun kq v10 w' => ∃ (x10_1 : Int), v10 = .int .u16 x10_1 ∧ Aside0 (spec_l07Wrong.l0 kq a1 (IntKind.u64.wrap (t101)) x10_1 a0_0 l0_1 l0_2 = some (r1, r2, r3)) ∧ Aside0 (kq ≤ k) ∧ Aside0 (w'.heap[gro0]? = some (.cells #[.int .i8 a0_0, (.slice A0_1 l0_1.length c0_1), (.slice A0_2 l0_2.length c0_2)] 30 (0, 0))) ∧ Aside0 (Below w.heap.size w w'))
  case atStart => exact ⟨(0), (by first | rfl | (simp; done) | (simp [*]; done)), H', ⟨Nat.le_refl _⟩, ⟨by (with_reducible repeat (first | refine blk_drewN ?_ _ | refine blk_drew ?_ | refine blk_alloc ?_ _)); exact BK0.out⟩, ⟨by repeat (first | (with_reducible first | exact HB.out | apply below_alloc | apply pw_below_drewN | apply below_drew1 | refine below_set ?_ GE0.out) | exact HB.out)⟩⟩
  case round =>
    clear H'
    try clear p2
    obtain ⟨x10_1, rfl, HA, HK1, BK0, HB⟩ := hrel
    cases gk with
    | zero => exact absurd HA.out (by simp [spec_l07Wrong.l0])
    | succ k1 =>
      have H := HA.out
      clear HA
      simp only [spec_l07Wrong.l0] at H
      obtain ⟨ji5, hji5⟩ : ∃ j_ : Int, (IntKind.u64.wrap (t101)) = j_ := ⟨_, rfl⟩
      replace H : (if 0 ≤ (ji5) then (if (shr .u16 x10_1 (ji5)) = 0 then (spec_l07Wrong.l1 k1 a1 (ji5) x10_1 0 a0_0 l0_1 l0_2) else (some (0, 0, false))) else (none)) = some (r1, r2, r3) := by first | (rw [hji5] at H; exact H) | (simp only [hji5] at H ⊢; exact H)
      by_cases c6 : 0 ≤ (ji5)
      · rw [if_pos c6] at H
        have c6b0 := eq_true c6
        have c6b1 : decide (0 ≤ (ji5)) = true := decide_eq_true c6
        clear c6
        obtain ⟨ji7, hji7⟩ : ∃ j_ : Int, (shr .u16 x10_1 (ji5)) = j_ := ⟨_, rfl⟩
        replace H : (if (ji7) = 0 then (spec_l07Wrong.l1 k1 a1 (ji5) x10_1 0 a0_0 l0_1 l0_2) else (some (0, 0, false))) = some (r1, r2, r3) := by first | (rw [hji7] at H; exact H) | (simp only [hji7] at H ⊢; exact H)
        have hji7_ : (x10_1 / 2 ^ min (ji5).toNat 16) = ji7 := hji7
        have hji7z : (ji5) ≤ 16 → (x10_1 / 2 ^ (ji5).toNat) = ji7 := shr_small hji7
        by_cases c8 : (ji7) = 0
        · rw [if_pos c8] at H
          have c8b0 : ((ji7) == 0) = true := beq_iff_eq.mpr c8
          have c8b1 : ((ji7) != 0) = false := bne_eq_false_iff_eq.mpr c8
          clear c8
          have H' := Aside0.mk H
          clear H
          go_wp2
          go_loopg [11] k1 (fun kq v11 w' => ∃ (x11_2 : Int), v11 = .int .u16 x11_2 ∧ Aside0 (spec_l07Wrong.l1 kq a1 (ji5) x10_1 x11_2 a0_0 l0_1 l0_2 = some (r1, r2, r3)) ∧ Aside0 (kq ≤ k1) ∧ Aside0 (w'.heap[gro0]? = some (.cells #[.int .i8 a0_0, (.slice A0_1 l0_1.length c0_1), (.slice A0_2 l0_2.length c0_2)] 30 (0, 0))) ∧ Aside0 (Below w.heap.size w w'))
          case atStart => exact ⟨(0), (by first | rfl | (simp; done) | (simp [*]; done)), H', ⟨Nat.le_refl _⟩, ⟨by (with_reducible repeat (first | refine blk_drewN ?_ _ | refine blk_drew ?_ | refine blk_alloc ?_ _)); exact BK0.out⟩, ⟨by repeat (first | (with_reducible first | exact HB.out | apply below_alloc | apply pw_below_drewN | apply below_drew1 | refine below_set ?_ GE0.out) | exact HB.out)⟩⟩
          case round =>
            clear H'
            try clear p2
            try clear c6
            try clear c6b0
            try clear c6b1
            try clear c7
            try clear c8
            try clear c8b0
            try clear c8b1
            try clear p2
            obtain ⟨x11_2, rfl, HA, HK2, BK0, HB⟩ := hrel
            cases gk with
            | zero => exact absurd HA.out (by simp [spec_l07Wrong.l1])
            | succ k2 =>
              have H := HA.out
              clear HA
              simp only [spec_l07Wrong.l1] at H
              by_cases c9 : 0 ≤ (ji5)
              · rw [if_pos c9] at H
                have c9b0 := eq_true c9
                have c9b1 : decide (0 ≤ (ji5)) = true := decide_eq_true c9
                clear c9
                obtain ⟨ji10, hji10⟩ : ∃ j_ : Int, (shr .u16 x11_2 (ji5)) = j_ := ⟨_, rfl⟩
                replace H : (if (ji10) = 0 then (if a1 = 1 then ((spec_l01Times.f x10_1 x11_2).bind fun t102 => ((spec_l07Run.f k2 a0_0 l0_1 l0_2 (Go.bits .or .u16 x10_1 (shl .u16 x11_2 (ji5)))).bind fun t103 => (if t103 = t102 then (spec_l07Wrong.l1 k2 a1 (ji5) x10_1 (IntKind.u16.wrap (x11_2 + 1)) a0_0 l0_1 l0_2) else (some (x10_1, x11_2, true))))) else ((spec_l07Run.f k2 a0_0 l0_1 l0_2 (Go.bits .or .u16 x10_1 (shl .u16 x11_2 (ji5)))).bind fun t104 => (if t104 = (Go.bits .xor .u16 x10_1 x11_2) then (spec_l07Wrong.l1 k2 a1 (ji5) x10_1 (IntKind.u16.wrap (x11_2 + 1)) a0_0 l0_1 l0_2) else (some (x10_1, x11_2, true))))) else (spec_l07Wrong.l0 k2 a1 (ji5) (IntKind.u16.wrap (x10_1 + 1)) a0_0 l0_1 l0_2)) = some (r1, r2, r3) := by first | (rw [hji10] at H; exact H) | (simp only [hji10] at H ⊢; exact H)
                have hji10_ : (x11_2 / 2 ^ min (ji5).toNat 16) = ji10 := hji10
                have hji10z : (ji5) ≤ 16 → (x11_2 / 2 ^ (ji5).toNat) = ji10 := shr_small hji10
                by_cases c11 : (ji10) = 0
                · rw [if_pos c11] at H
                  have c11b0 : ((ji10) == 0) = true := beq_iff_eq.mpr c11
                  have c11b1 : ((ji10) != 0) = false := bne_eq_false_iff_eq.mpr c11
                  clear c11
                  by_cases c12 : a1 = 1
                  · rw [if_pos c12] at H
                    have c12b0 : (a1 == 1) = true := beq_iff_eq.mpr c12
                    have c12b1 : (a1 != 1) = false := bne_eq_false_iff_eq.mpr c12
                    clear c12
                    replace H := Option.bind_eq_some_iff.mp H
                    obtain ⟨t102, A130, H⟩ := H
                    replace H : ((spec_l07Run.f k2 a0_0 l0_1 l0_2 (Go.bits .or .u16 x10_1 (shl .u16 x11_2 (ji5)))).bind fun t103 => (if t103 = t102 then (spec_l07Wrong.l1 k2 a1 (ji5) x10_1 (IntKind.u16.wrap (x11_2 + 1)) a0_0 l0_1 l0_2) else (some (x10_1, x11_2, true)))) = some (r1, r2, r3) := H
                    have A13 := Aside0.mk A130
                    clear A130
                    have c14b0 := eq_true (of_decide_eq_true (by first | (with_reducible assumption) | assumption) : 0 ≤ (ji5))
                    obtain ⟨ji15, hji15⟩ : ∃ j_ : Int, (shl .u16 x11_2 (ji5)) = j_ := ⟨_, rfl⟩
                    try have hji15p : decide (0 ≤ ji15) = true := decide_eq_true (by rw [← hji15]; unfold shl IntKind.wrap; simp [IntKind.u64, IntKind.signed]; omega)
                    try have hji15q : 0 ≤ ji15 := of_decide_eq_true hji15p
                    replace H : ((spec_l07Run.f k2 a0_0 l0_1 l0_2 (Go.bits .or .u16 x10_1 (ji15))).bind fun t103 => (if t103 = t102 then (spec_l07Wrong.l1 k2 a1 (ji5) x10_1 (IntKind.u16.wrap (x11_2 + 1)) a0_0 l0_1 l0_2) else (some (x10_1, x11_2, true)))) = some (r1, r2, r3) := by first | (rw [hji15] at H; exact H) | (simp only [hji15] at H ⊢; exact H)
                    (try rw [hji15] at A13)
                    have hji15_ : (IntKind.u16.wrap (x11_2 * 2 ^ min (ji5).toNat 16)) = ji15 := hji15
                    have hji15z : (ji5) ≤ 16 → (IntKind.u16.wrap (x11_2 * 2 ^ (ji5).toNat)) = ji15 := shl_small hji15
                    replace H := Option.bind_eq_some_iff.mp H
                    obtain ⟨t103, A160, H⟩ := H
                    replace H : (if t103 = t102 then (spec_l07Wrong.l1 k2 a1 (ji5) x10_1 (IntKind.u16.wrap (x11_2 + 1)) a0_0 l0_1 l0_2) else (some (x10_1, x11_2, true))) = some (r1, r2, r3) := H
                    have A16 := Aside0.mk A160
                    clear A160
                    by_cases c17 : t103 = t102
                    · rw [if_pos c17] at H
                      have c17b0 : (t103 == t102) = true := beq_iff_eq.mpr c17
                      have c17b1 : (t103 != t102) = false := bne_eq_false_iff_eq.mpr c17
                      clear c17
                      have H' := Aside0.mk H
                      clear H
                      go_wp2_with (first | ((with_reducible refine gate_callee (f := 89) rfl ?_); refine goesL_ (some 35) rfl rfl Try.func89 (by kernel_rfl) rfl #[.int .u16 x10_1, .int .u16 x11_2] rfl (by (try simp only [List.map_toArray, List.map_cons, List.map_nil]); first | done | rfl | (simp only [List.length_drop, List.length_take]; rfl)) ?_; (with_reducible refine (spec_l01Times.calls x10_1 x11_2 t102 _ A13.out).mono ?_); rintro e w' ⟨rfl, ⟨nd, rfl⟩⟩; refine ⟨_, rfl, ?_⟩) | ((with_reducible refine gate_callee (f := 93) rfl ?_); refine goesL_ (some 42) rfl rfl Try.func93 (by kernel_rfl) rfl #[.pointer (some ⟨gro0, 0, none⟩), .int .u16 (Go.bits .or .u16 x10_1 (ji15))] rfl (by (try simp only [List.map_toArray, List.map_cons, List.map_nil]); first | done | (simp only [hji15]; rfl) | rfl | (simp only [List.length_drop, List.length_take]; rfl)) ?_; (with_reducible refine (spec_l07Run.calls k2 gro0 a0_0 A0_1 c0_1 l0_1 A0_2 c0_2 l0_2 (Go.bits .or .u16 x10_1 (ji15)) t103 _ ?side1 ?side2 ?side3 ?side4 ?side5 A16.out).mono ?_); (case side1 => (with_reducible repeat (first | refine blk_drewN ?_ _ | refine blk_drew ?_ | refine blk_alloc ?_ _)); exact BK0.out); (case side2 => repeat (first | exact (Kd.C_below HR0_1.out (by repeat (first | (with_reducible first | exact HB.out | apply below_alloc | apply pw_below_drewN | apply below_drew1 | refine below_set ?_ GE0.out) | exact HB.out))) | (with_reducible refine Kd.C_alloc ?_ _) | (with_reducible refine Kd.C_drewN ?_ _) | (with_reducible refine Kd.C_drew ?_))); (case side3 => exact HC0_1.out); (case side4 => repeat (first | exact (Kd.C_below HR0_2.out (by repeat (first | (with_reducible first | exact HB.out | apply below_alloc | apply pw_below_drewN | apply below_drew1 | refine below_set ?_ GE0.out) | exact HB.out))) | (with_reducible refine Kd.C_alloc ?_ _) | (with_reducible refine Kd.C_drewN ?_ _) | (with_reducible refine Kd.C_drew ?_))); (case side5 => exact HC0_2.out); rintro e w18 ⟨rfl, hb⟩; refine ⟨_, rfl, ?_⟩; (try replace hb := Drawn0.below hb); have n0_ := Aside0.mk (blk_below (g := gro0) (o := .cells #[.int .i8 a0_0, .slice A0_1 l0_1.length c0_1, .slice A0_2 l0_2.length c0_2] 30 (0, 0)) (by (with_reducible repeat (first | refine blk_drewN ?_ _ | refine blk_drew ?_ | refine blk_alloc ?_ _)); exact BK0.out) hb); have n1_ := Aside0.mk (below_step (by repeat (first | (with_reducible first | exact HB.out | apply below_alloc | apply pw_below_drewN | apply below_drew1 | refine below_set ?_ GE0.out) | exact HB.out)) hb); clear BK0; clear HB; have BK0 := n0_; have HB := n1_; clear n0_ n1_; (try clear hb); (try clear hb2); (try clear hk); (try clear hi)))
                      try subst hji5
                      go_roundg k2
                      case measure => have := HK1.out; have := HK2.out; omega
                      case rel => exact ⟨(IntKind.u16.wrap (x11_2 + 1)), (by first | rfl | (simp; done) | (simp [*]; done)), H', ⟨by have := HK1.out; have := HK2.out; omega⟩, ⟨by (with_reducible repeat (first | refine blk_drewN ?_ _ | refine blk_drew ?_ | refine blk_alloc ?_ _)); exact BK0.out⟩, ⟨by repeat (first | (with_reducible first | exact HB.out | apply below_alloc | apply pw_below_drewN | apply below_drew1 | refine below_set ?_ GE0.out) | exact HB.out)⟩⟩
                    · rw [if_neg c17] at H
                      have c17b0 : (t103 == t102) = false := beq_eq_false_iff_ne.mpr c17
                      have c17b1 : (t103 != t102) = true := bne_iff_ne.mpr c17
                      simp only [Option.some.injEq, Prod.mk.injEq] at H
                      obtain ⟨rfl, rfl, rfl⟩ := H
                      go_wp2_with (first | ((with_reducible refine gate_callee (f := 89) rfl ?_); refine goesL_ (some 35) rfl rfl Try.func89 (by kernel_rfl) rfl #[.int .u16 x10_1, .int .u16 x11_2] rfl (by (try simp only [List.map_toArray, List.map_cons, List.map_nil]); first | done | rfl | (simp only [List.length_drop, List.length_take]; rfl)) ?_; (with_reducible refine (spec_l01Times.calls x10_1 x11_2 t102 _ A13.out).mono ?_); rintro e w' ⟨rfl, ⟨nd, rfl⟩⟩; refine ⟨_, rfl, ?_⟩) | ((with_reducible refine gate_callee (f := 93) rfl ?_); refine goesL_ (some 42) rfl rfl Try.func93 (by kernel_rfl) rfl #[.pointer (some ⟨gro0, 0, none⟩), .int .u16 (Go.bits .or .u16 x10_1 (ji15))] rfl (by (try simp only [List.map_toArray, List.map_cons, List.map_nil]); first | done | (simp only [hji15]; rfl) | rfl | (simp only [List.length_drop, List.length_take]; rfl)) ?_; (with_reducible refine (spec_l07Run.calls k2 gro0 a0_0 A0_1 c0_1 l0_1 A0_2 c0_2 l0_2 (Go.bits .or .u16 x10_1 (ji15)) t103 _ ?side1 ?side2 ?side3 ?side4 ?side5 A16.out).mono ?_); (case side1 => (with_reducible repeat (first | refine blk_drewN ?_ _ | refine blk_drew ?_ | refine blk_alloc ?_ _)); exact BK0.out); (case side2 => repeat (first | exact (Kd.C_below HR0_1.out (by repeat (first | (with_reducible first | exact HB.out | apply below_alloc | apply pw_below_drewN | apply below_drew1 | refine below_set ?_ GE0.out) | exact HB.out))) | (with_reducible refine Kd.C_alloc ?_ _) | (with_reducible refine Kd.C_drewN ?_ _) | (with_reducible refine Kd.C_drew ?_))); (case side3 => exact HC0_1.out); (case side4 => repeat (first | exact (Kd.C_below HR0_2.out (by repeat (first | (with_reducible first | exact HB.out | apply below_alloc | apply pw_below_drewN | apply below_drew1 | refine below_set ?_ GE0.out) | exact HB.out))) | (with_reducible refine Kd.C_alloc ?_ _) | (with_reducible refine Kd.C_drewN ?_ _) | (with_reducible refine Kd.C_drew ?_))); (case side5 => exact HC0_2.out); rintro e w19 ⟨rfl, hb⟩; refine ⟨_, rfl, ?_⟩; (try replace hb := Drawn0.below hb); have n0_ := Aside0.mk (blk_below (g := gro0) (o := .cells #[.int .i8 a0_0, .slice A0_1 l0_1.length c0_1, .slice A0_2 l0_2.length c0_2] 30 (0, 0)) (by (with_reducible repeat (first | refine blk_drewN ?_ _ | refine blk_drew ?_ | refine blk_alloc ?_ _)); exact BK0.out) hb); have n1_ := Aside0.mk (below_step (by repeat (first | (with_reducible first | exact HB.out | apply below_alloc | apply pw_below_drewN | apply below_drew1 | refine below_set ?_ GE0.out) | exact HB.out)) hb); clear BK0; clear HB; have BK0 := n0_; have HB := n1_; clear n0_ n1_; (try clear hb); (try clear hb2); (try clear hk); (try clear hi)))
                      go_ret3
                      exact ⟨by first | rfl | (simp [errW_none, errW_some] <;> rfl) | (simp only [← hji5, ← hji7, ← hji10, ← hji15]; first | rfl | (simp [errW_none, errW_some] <;> rfl)) | (simp [*, errW_none, errW_some] <;> rfl), by repeat (first | (with_reducible first | exact HB.out | apply below_alloc | apply pw_below_drewN | apply below_drew1 | refine below_set ?_ GE0.out) | exact HB.out)⟩
                  · rw [if_neg c12] at H
                    have c12b0 : (a1 == 1) = false := beq_eq_false_iff_ne.mpr c12
                    have c12b1 : (a1 != 1) = true := bne_iff_ne.mpr c12
                    have c20b0 := eq_true (of_decide_eq_true (by first | (with_reducible assumption) | assumption) : 0 ≤ (ji5))
                    obtain ⟨ji21, hji21⟩ : ∃ j_ : Int, (shl .u16 x11_2 (ji5)) = j_ := ⟨_, rfl⟩
                    try have hji21p : decide (0 ≤ ji21) = true := decide_eq_true (by rw [← hji21]; unfold shl IntKind.wrap; simp [IntKind.u64, IntKind.signed]; omega)
                    try have hji21q : 0 ≤ ji21 := of_decide_eq_true hji21p
                    replace H : ((spec_l07Run.f k2 a0_0 l0_1 l0_2 (Go.bits .or .u16 x10_1 (ji21))).bind fun t104 => (if t104 = (Go.bits .xor .u16 x10_1 x11_2) then (spec_l07Wrong.l1 k2 a1 (ji5) x10_1 (IntKind.u16.wrap (x11_2 + 1)) a0_0 l0_1 l0_2) else (some (x10_1, x11_2, true)))) = some (r1, r2, r3) := by first | (rw [hji21] at H; exact H) | (simp only [hji21] at H ⊢; exact H)
                    have hji21_ : (IntKind.u16.wrap (x11_2 * 2 ^ min (ji5).toNat 16)) = ji21 := hji21
                    have hji21z : (ji5) ≤ 16 → (IntKind.u16.wrap (x11_2 * 2 ^ (ji5).toNat)) = ji21 := shl_small hji21
                    replace H := Option.bind_eq_some_iff.mp H
                    obtain ⟨t104, A220, H⟩ := H
                    replace H : (if t104 = (Go.bits .xor .u16 x10_1 x11_2) then (spec_l07Wrong.l1 k2 a1 (ji5) x10_1 (IntKind.u16.wrap (x11_2 + 1)) a0_0 l0_1 l0_2) else (some (x10_1, x11_2, true))) = some (r1, r2, r3) := H
                    have A22 := Aside0.mk A220
                    clear A220
                    by_cases c23 : t104 = (Go.bits .xor .u16 x10_1 x11_2)
                    · rw [if_pos c23] at H
                      have c23b0 : (t104 == (Go.bits .xor .u16 x10_1 x11_2)) = true := beq_iff_eq.mpr c23
                      have c23b1 : (t104 != (Go.bits .xor .u16 x10_1 x11_2)) = false := bne_eq_false_iff_eq.mpr c23
                      clear c23
                      have H' := Aside0.mk H
                      clear H
                      go_wp2_with (first | ((with_reducible refine gate_callee (f := 93) rfl ?_); refine goesL_ (some 42) rfl rfl Try.func93 (by kernel_rfl) rfl #[.pointer (some ⟨gro0, 0, none⟩), .int .u16 (Go.bits .or .u16 x10_1 (ji21))] rfl (by (try simp only [List.map_toArray, List.map_cons, List.map_nil]); first | done | (simp only [hji21]; rfl) | rfl | (simp only [List.length_drop, List.length_take]; rfl)) ?_; (with_reducible refine (spec_l07Run.calls k2 gro0 a0_0 A0_1 c0_1 l0_1 A0_2 c0_2 l0_2 (Go.bits .or .u16 x10_1 (ji21)) t104 _ ?side1 ?side2 ?side3 ?side4 ?side5 A22.out).mono ?_); (case side1 => (with_reducible repeat (first | refine blk_drewN ?_ _ | refine blk_drew ?_ | refine blk_alloc ?_ _)); exact BK0.out); (case side2 => repeat (first | exact (Kd.C_below HR0_1.out HB.out) | (with_reducible refine Kd.C_alloc ?_ _) | (with_reducible refine Kd.C_drewN ?_ _) | (with_reducible refine Kd.C_drew ?_))); (case side3 => exact HC0_1.out); (case side4 => repeat (first | exact (Kd.C_below HR0_2.out HB.out) | (with_reducible refine Kd.C_alloc ?_ _) | (with_reducible refine Kd.C_drewN ?_ _) | (with_reducible refine Kd.C_drew ?_))); (case side5 => exact HC0_2.out); rintro e w24 ⟨rfl, hb⟩; refine ⟨_, rfl, ?_⟩; (try replace hb := Drawn0.below hb); have n0_ := Aside0.mk (blk_below (g := gro0) (o := .cells #[.int .i8 a0_0, .slice A0_1 l0_1.length c0_1, .slice A0_2 l0_2.length c0_2] 30 (0, 0)) (by (with_reducible repeat (first | refine blk_drewN ?_ _ | refine blk_drew ?_ | refine blk_alloc ?_ _)); exact BK0.out) hb); have n1_ := Aside0.mk (below_step (by repeat (first | (with_reducible first | exact HB.out | apply below_alloc | apply pw_below_drewN | apply below_drew1 | refine below_set ?_ GE0.out) | exact HB.out)) hb); clear BK0; clear HB; have BK0 := n0_; have HB := n1_; clear n0_ n1_; (try clear hb); (try clear hb2); (try clear hk); (try clear hi)))
                      try subst hji5
                      go_roundg k2
                      case measure => have := HK1.out; have := HK2.out; omega
                      case rel => exact ⟨(IntKind.u16.wrap (x11_2 + 1)), (by first | rfl | (simp; done) | (simp [*]; done)), H', ⟨by have := HK1.out; have := HK2.out; omega⟩, ⟨by (with_reducible repeat (first | refine blk_drewN ?_ _ | refine blk_drew ?_ | refine blk_alloc ?_ _)); exact BK0.out⟩, ⟨by repeat (first | (with_reducible first | exact HB.out | apply below_alloc | apply pw_below_drewN | apply below_drew1 | refine below_set ?_ GE0.out) | exact HB.out)⟩⟩
                    · rw [if_neg c23] at H
                      have c23b0 : (t104 == (Go.bits .xor .u16 x10_1 x11_2)) = false := beq_eq_false_iff_ne.mpr c23
                      have c23b1 : (t104 != (Go.bits .xor .u16 x10_1 x11_2)) = true := bne_iff_ne.mpr c23
                      simp only [Option.some.injEq, Prod.mk.injEq] at H
                      obtain ⟨rfl, rfl, rfl⟩ := H
                      go_wp2_with (first | ((with_reducible refine gate_callee (f := 93) rfl ?_); refine goesL_ (some 42) rfl rfl Try.func93 (by kernel_rfl) rfl #[.pointer (some ⟨gro0, 0, none⟩), .int .u16 (Go.bits .or .u16 x10_1 (ji21))] rfl (by (try simp only [List.map_toArray, List.map_cons, List.map_nil]); first | done | (simp only [hji21]; rfl) | rfl | (simp only [List.length_drop, List.length_take]; rfl)) ?_; (with_reducible refine (spec_l07Run.calls k2 gro0 a0_0 A0_1 c0_1 l0_1 A0_2 c0_2 l0_2 (Go.bits .or .u16 x10_1 (ji21)) t104 _ ?side1 ?side2 ?side3 ?side4 ?side5 A22.out).mono ?_); (case side1 => (with_reducible repeat (first | refine blk_drewN ?_ _ | refine blk_drew ?_ | refine blk_alloc ?_ _)); exact BK0.out); (case side2 => repeat (first | exact (Kd.C_below HR0_1.out HB.out) | (with_reducible refine Kd.C_alloc ?_ _) | (with_reducible refine Kd.C_drewN ?_ _) | (with_reducible refine Kd.C_drew ?_))); (case side3 => exact HC0_1.out); (case side4 => repeat (first | exact (Kd.C_below HR0_2.out HB.out) | (with_reducible refine Kd.C_alloc ?_ _) | (with_reducible refine Kd.C_drewN ?_ _) | (with_reducible refine Kd.C_drew ?_))); (case side5 => exact HC0_2.out); rintro e w25 ⟨rfl, hb⟩; refine ⟨_, rfl, ?_⟩; (try replace hb := Drawn0.below hb); have n0_ := Aside0.mk (blk_below (g := gro0) (o := .cells #[.int .i8 a0_0, .slice A0_1 l0_1.length c0_1, .slice A0_2 l0_2.length c0_2] 30 (0, 0)) (by (with_reducible repeat (first | refine blk_drewN ?_ _ | refine blk_drew ?_ | refine blk_alloc ?_ _)); exact BK0.out) hb); have n1_ := Aside0.mk (below_step (by repeat (first | (with_reducible first | exact HB.out | apply below_alloc | apply pw_below_drewN | apply below_drew1 | refine below_set ?_ GE0.out) | exact HB.out)) hb); clear BK0; clear HB; have BK0 := n0_; have HB := n1_; clear n0_ n1_; (try clear hb); (try clear hb2); (try clear hk); (try clear hi)))
                      go_ret3
                      exact ⟨by first | rfl | (simp [errW_none, errW_some] <;> rfl) | (simp only [← hji5, ← hji7, ← hji10, ← hji21]; first | rfl | (simp [errW_none, errW_some] <;> rfl)) | (simp [*, errW_none, errW_some] <;> rfl), by repeat (first | (with_reducible first | exact HB.out | apply below_alloc | apply pw_below_drewN | apply below_drew1 | refine below_set ?_ GE0.out) | exact HB.out)⟩
                · rw [if_neg c11] at H
                  have c11b0 : ((ji10) == 0) = false := beq_eq_false_iff_ne.mpr c11
                  have c11b1 : ((ji10) != 0) = true := bne_iff_ne.mpr c11
                  have H' := Aside0.mk H
                  clear H
                  go_wp2
                  try subst hji5
                  go_roundg k2
                  case measure => have := HK1.out; have := HK2.out; omega
                  case rel => exact ⟨(IntKind.u16.wrap (x10_1 + 1)), (by first | rfl | (simp; done) | (simp [*]; done)), H', ⟨by have := HK1.out; have := HK2.out; omega⟩, ⟨by (with_reducible repeat (first | refine blk_drewN ?_ _ | refine blk_drew ?_ | refine blk_alloc ?_ _)); exact BK0.out⟩, ⟨by repeat (first | (with_reducible first | exact HB.out | apply below_alloc | apply pw_below_drewN | apply below_drew1 | refine below_set ?_ GE0.out) | exact HB.out)⟩⟩
              · rw [if_neg c9] at H
                exact absurd H (by simp)
        · rw [if_neg c8] at H
          have c8b0 : ((ji7) == 0) = false := beq_eq_false_iff_ne.mpr c8
          have c8b1 : ((ji7) != 0) = true := bne_iff_ne.mpr c8
          simp only [Option.some.injEq, Prod.mk.injEq] at H
          obtain ⟨rfl, rfl, rfl⟩ := H
          go_wp2
          go_ret3
          exact ⟨by first | rfl | (simp [errW_none, errW_some] <;> rfl) | (simp only [← hji5, ← hji7]; first | rfl | (simp [errW_none, errW_some] <;> rfl)) | (simp [*, errW_none, errW_some] <;> rfl), by repeat (first | (with_reducible first | exact HB.out | apply below_alloc | apply pw_below_drewN | apply below_drew1 | refine below_set ?_ GE0.out) | exact HB.out)⟩
      · rw [if_neg c6] at H
        exact absurd H (by simp)
end Go.Proofs.Yteanndgkjoinmaa.X

-- Laid by wip/xprint.py of this session (the kit's print program, with some contracts given by hand). Not trusted: Lean checks it.
namespace Go.Proofs.Yteanndgkjoinmaa.X
open Go.RowKit Go.Proofs.YteanndgkjoinmaaW.PrintWords Go.Proofs.YteanndgkjoinmaaW.PrintLast Go.Proofs.YteanndgkjoinmaaW.PrintMore
attribute [local go_sem] max2_int min2_int max_two min_two max_three min_three max_four min_four
set_option linter.unusedVariables false
set_option linter.unusedSimpArgs false
mutual
def spec_FirstWrong.j0 : Nat → Int → Int → Int → Bool → Int → List (S68) → List Int → Option (Int × Int × Int)
  | 0, _, _, _, _, _, _, _ => none
  | k + 1, x1, x2, x9, x22, x102000, x102001, x102002 => if x22 = true then (spec_FirstWrong.j1 k x1 x2 4 x102000 x102001 x102002) else (spec_FirstWrong.j1 k x1 x2 x9 x102000 x102001 x102002)
def spec_FirstWrong.j1 : Nat → Int → Int → Int → Int → List (S68) → List Int → Option (Int × Int × Int)
  | 0, _, _, _, _, _, _ => none
  | k + 1, x1, x2, x9, x102000, x102001, x102002 => if x9 = 0 then ((spec_l07Wrong.f k x102000 x102001 x102002 x1 x2).bind fun bt104 => (if bt104.2.2 = true then (some (bt104.1, bt104.2.1, 0)) else (some (0, 0, 6)))) else (some (0, 0, x9))
end
def spec_FirstWrong.f (k : Nat) (a0_0 : Int) (l0_1 : List (S68)) (l0_2 : List Int) (a1 : Int) (a2 : Int) : Option (Int × Int × Int) := (spec_l07Claimed.f k a0_0 l0_1 l0_2 a1 a2).bind fun t102 => (if t102 = 0 then ((spec_l07Fits.f a0_0 l0_1 l0_2 a2).bind fun t103 => (spec_FirstWrong.j0 k a1 a2 t102 (!t103) a0_0 l0_1 l0_2)) else (spec_FirstWrong.j0 k a1 a2 t102 false a0_0 l0_1 l0_2))
set_option maxHeartbeats 8000000 in
set_option maxRecDepth 100000 in
theorem spec_FirstWrong.calls (k : Nat) (a0_0 : Int) (A0_1 : Option Addr) (c0_1 : Nat) (l0_1 : List (S68)) (A0_2 : Option Addr) (c0_2 : Nat) (l0_2 : List Int) (a1 : Int) (a2 : Int) (r1 : Int) (r2 : Int) (r3 : Int) (w : World) (hr0_1 : Kd.C k68 w A0_1 l0_1.length l0_1) (hc0_1 : l0_1.length ≤ c0_1) (hr0_2 : Kd.C (Kd.int .i16) w A0_2 l0_2.length l0_2) (hc0_2 : l0_2.length ≤ c0_2) (h : spec_FirstWrong.f k a0_0 l0_1 l0_2 a1 a2 = some (r1, r2, r3)) :
    Calls Try.prog 22 #[.agg #[.int .i8 a0_0, .slice A0_1 l0_1.length c0_1, .slice A0_2 l0_2.length c0_2], .int .i64 a1, .int .i64 a2] w fun e w' => e = .returned (.tuple #[.int .u16 r1, .int .u16 r2, .int .i64 r3]) ∧ Below w.heap.size w w' := by
  have hu30 := Try.underlying30
  have HR0_1 := Aside0.mk hr0_1
  have HC0_1 := Aside0.mk hc0_1
  clear hr0_1 hc0_1
  have HR0_2 := Aside0.mk hr0_2
  have HC0_2 := Aside0.mk hc0_2
  clear hr0_2 hc0_2
  have HB := Aside0.mk (Below.refl w.heap.size w)
  have H : ((spec_l07Claimed.f k a0_0 l0_1 l0_2 a1 a2).bind fun t102 => (if t102 = 0 then ((spec_l07Fits.f a0_0 l0_1 l0_2 a2).bind fun t103 => (spec_FirstWrong.j0 k a1 a2 t102 (!t103) a0_0 l0_1 l0_2)) else (spec_FirstWrong.j0 k a1 a2 t102 false a0_0 l0_1 l0_2))) = some (r1, r2, r3) := h
  clear h
  replace H := Option.bind_eq_some_iff.mp H
  obtain ⟨t102, A40, H⟩ := H
  replace H : (if t102 = 0 then ((spec_l07Fits.f a0_0 l0_1 l0_2 a2).bind fun t103 => (spec_FirstWrong.j0 k a1 a2 t102 (!t103) a0_0 l0_1 l0_2)) else (spec_FirstWrong.j0 k a1 a2 t102 false a0_0 l0_1 l0_2)) = some (r1, r2, r3) := H
  have A4 := Aside0.mk A40
  clear A40
  have HC5 := Aside0.mk H
  clear H
  go_enter Try.func22, Try.ntmps22
  go_upto_region 2 with (first | ((with_reducible refine gate_dst (N := 3) rfl ?_); refine box_event ?hg (N := 3) ?hd (cs := #[.int .i8 a0_0, .slice A0_1 l0_1.length c0_1, .slice A0_2 l0_2.length c0_2]) (t := 30) ?hr ?_; (case hd => rfl); (case hg => rfl); (case hr => first | (go_simp; done) | (go_simp; rfl)); intro gb101 hg w6 hbox hb; have n0_ := Aside0.mk (below_step (by repeat (first | (with_reducible first | exact HB.out | apply below_alloc | apply pw_below_drewN | apply below_drew1) | exact HB.out)) hb); have n1_ := Aside0.mk (hbox); have n2_ := Aside0.mk ((by rw [hg]; exact (below_size (by repeat (first | (with_reducible first | exact HB.out | apply below_alloc | apply pw_below_drewN | apply below_drew1) | exact HB.out))) : w.heap.size ≤ gb101)); have n3_ := Aside0.mk ((by rw [hg]; exact (below_size (by repeat (first | (with_reducible first | exact HB.out | apply below_alloc | apply pw_below_drewN | apply below_drew1) | exact HB.out))) : w.heap.size ≤ gb101)); clear HB; have HB := n0_; have BK101 := n1_; have GW101 := n2_; have GE101 := n3_; clear n0_ n1_ n2_ n3_; clear hb hbox hg) | ((with_reducible refine gate_callee (f := 64) rfl ?_); refine goesL_ (some 15) rfl rfl Try.func64 (by kernel_rfl) rfl #[.pointer (some ⟨gb101, 0, none⟩), .int .i64 a1, .int .i64 a2] rfl (by (try simp only [List.map_toArray, List.map_cons, List.map_nil]); first | done | rfl | (simp only [List.length_drop, List.length_take]; rfl)) ?_; (with_reducible refine (spec_l07Claimed.calls k gb101 a0_0 A0_1 c0_1 l0_1 A0_2 c0_2 l0_2 a1 a2 t102 _ ?side1 ?side2 ?side3 ?side4 ?side5 A4.out).mono ?_); (case side1 => (with_reducible repeat (first | refine blk_drewN ?_ _ | refine blk_drew ?_ | refine blk_alloc ?_ _)); exact BK101.out); (case side2 => repeat (first | exact (Kd.C_below HR0_1.out HB.out) | (with_reducible refine Kd.C_alloc ?_ _) | (with_reducible refine Kd.C_drewN ?_ _) | (with_reducible refine Kd.C_drew ?_))); (case side3 => exact HC0_1.out); (case side4 => repeat (first | exact (Kd.C_below HR0_2.out HB.out) | (with_reducible refine Kd.C_alloc ?_ _) | (with_reducible refine Kd.C_drewN ?_ _) | (with_reducible refine Kd.C_drew ?_))); (case side5 => exact HC0_2.out); rintro e w7 ⟨rfl, hb⟩; refine ⟨_, rfl, ?_⟩; (try replace hb := Drawn0.below hb); have n0_ := Aside0.mk (blk_below (g := gb101) (o := .cells #[.int .i8 a0_0, .slice A0_1 l0_1.length c0_1, .slice A0_2 l0_2.length c0_2] 30 (0, 0)) (by (with_reducible repeat (first | refine blk_drewN ?_ _ | refine blk_drew ?_ | refine blk_alloc ?_ _)); exact BK101.out) hb); have n1_ := Aside0.mk (below_step (by repeat (first | (with_reducible first | exact HB.out | apply below_alloc | apply pw_below_drewN | apply below_drew1 | refine below_set ?_ GE101.out) | exact HB.out)) hb); clear BK101; clear HB; have BK101 := n0_; have HB := n1_; clear n0_ n1_; (try clear hb); (try clear hb2); (try clear hk); (try clear hi)))
  (try simp only [Act.put, List.setIfInBounds_toArray, List.set_cons_zero, List.set_cons_succ])
  go_cut [22] (fun v22 wc => ∃ (kq : Nat) (x22_4 : Bool), v22 = .bool x22_4 ∧ Aside0 (spec_FirstWrong.j0 kq a1 a2 t102 x22_4 a0_0 l0_1 l0_2 = some (r1, r2, r3)) ∧ Aside0 (kq ≤ k) ∧ Aside0 (wc.heap[gb101]? = some (.cells #[.int .i8 a0_0, (.slice A0_1 l0_1.length c0_1), (.slice A0_2 l0_2.length c0_2)] 30 (0, 0))) ∧ Aside0 (Below w.heap.size w wc))
  case first =>
    have H := HC5.out
    clear HC5
    by_cases c8 : t102 = 0
    · rw [if_pos c8] at H
      have c8b0 : (t102 == 0) = true := beq_iff_eq.mpr c8
      have c8b1 : (t102 != 0) = false := bne_eq_false_iff_eq.mpr c8
      clear c8
      (first | rw [c8b0] | (simp only [i64_w, i32_w]; rw [c8b0]) | skip)
      replace H := Option.bind_eq_some_iff.mp H
      obtain ⟨t103, A90, H⟩ := H
      replace H : (spec_FirstWrong.j0 k a1 a2 t102 (!t103) a0_0 l0_1 l0_2) = some (r1, r2, r3) := H
      have A9 := Aside0.mk A90
      clear A90
      have H' := Aside0.mk H
      clear H
      go_wp2_with (first | (go_at_call 65; (with_reducible refine (spec_l07Fits.calls gb101 a0_0 A0_1 c0_1 l0_1 A0_2 c0_2 l0_2 a2 t103 _ ?side1 ?side2 ?side3 ?side4 ?side5 A9.out).mono ?_); (case side1 => (with_reducible repeat (first | refine blk_drewN ?_ _ | refine blk_drew ?_ | refine blk_alloc ?_ _)); exact BK101.out); (case side2 => repeat (first | exact (Kd.C_below HR0_1.out HB.out) | (with_reducible refine Kd.C_alloc ?_ _) | (with_reducible refine Kd.C_drewN ?_ _) | (with_reducible refine Kd.C_drew ?_))); (case side3 => exact HC0_1.out); (case side4 => repeat (first | exact (Kd.C_below HR0_2.out HB.out) | (with_reducible refine Kd.C_alloc ?_ _) | (with_reducible refine Kd.C_drewN ?_ _) | (with_reducible refine Kd.C_drew ?_))); (case side5 => exact HC0_2.out); rintro e w10 ⟨rfl, hb⟩; (try replace hb := Drawn0.below hb); have n0_ := Aside0.mk (blk_below (g := gb101) (o := .cells #[.int .i8 a0_0, .slice A0_1 l0_1.length c0_1, .slice A0_2 l0_2.length c0_2] 30 (0, 0)) (by (with_reducible repeat (first | refine blk_drewN ?_ _ | refine blk_drew ?_ | refine blk_alloc ?_ _)); exact BK101.out) hb); have n1_ := Aside0.mk (below_step (by repeat (first | (with_reducible first | exact HB.out | apply below_alloc | apply pw_below_drewN | apply below_drew1 | refine below_set ?_ GE101.out) | exact HB.out)) hb); clear BK101; clear HB; have BK101 := n0_; have HB := n1_; clear n0_ n1_; (try clear hb); (try clear hb2); (try clear hk); (try clear hi)))
      go_meet
      case rel => exact ⟨_, (!t103), (by first | rfl | (simp; done) | (simp [*]; done)), H', ⟨by first | omega | exact Nat.le_refl _⟩, ⟨by (with_reducible repeat (first | refine blk_drewN ?_ _ | refine blk_drew ?_ | refine blk_alloc ?_ _)); exact BK101.out⟩, ⟨by repeat (first | (with_reducible first | exact HB.out | apply below_alloc | apply pw_below_drewN | apply below_drew1 | refine below_set ?_ GE101.out) | exact HB.out)⟩⟩
    · rw [if_neg c8] at H
      have c8b0 : (t102 == 0) = false := beq_eq_false_iff_ne.mpr c8
      have c8b1 : (t102 != 0) = true := bne_iff_ne.mpr c8
      (first | rw [c8b0] | (simp only [i64_w, i32_w]; rw [c8b0]) | skip)
      have H' := Aside0.mk H
      clear H
      go_wp2
      go_meet
      case rel => exact ⟨_, (false), (by first | rfl | (simp; done) | (simp [*]; done)), H', ⟨by first | omega | exact Nat.le_refl _⟩, ⟨by (with_reducible repeat (first | refine blk_drewN ?_ _ | refine blk_drew ?_ | refine blk_alloc ?_ _)); exact BK101.out⟩, ⟨by repeat (first | (with_reducible first | exact HB.out | apply below_alloc | apply pw_below_drewN | apply below_drew1 | refine below_set ?_ GE101.out) | exact HB.out)⟩⟩
  case rest =>
    clear HC5
    try clear c2
    try clear p2
    try clear c6
    try clear c8
    try clear c8b0
    try clear c8b1
    obtain ⟨kq, x22_4, rfl, HA, HJ4, BK101, HB⟩ := hcut
    cases kq with
    | zero => exact absurd HA.out (by simp [spec_FirstWrong.j0])
    | succ kj4 =>
      have H := HA.out
      clear HA
      simp only [spec_FirstWrong.j0] at H
      have HC11 := Aside0.mk H
      clear H
      go_upto_if 22 with (fail)
      go_cut [9] (fun v9 wc => ∃ (kq : Nat) (x9_10 : Int), v9 = .int .i64 x9_10 ∧ Aside0 (spec_FirstWrong.j1 kq a1 a2 x9_10 a0_0 l0_1 l0_2 = some (r1, r2, r3)) ∧ Aside0 (kq ≤ kj4) ∧ Aside0 (wc.heap[gb101]? = some (.cells #[.int .i8 a0_0, (.slice A0_1 l0_1.length c0_1), (.slice A0_2 l0_2.length c0_2)] 30 (0, 0))) ∧ Aside0 (Below w.heap.size w wc))
      case first =>
        have H := HC11.out
        clear HC11
        by_cases c12 : x22_4 = true
        · subst c12
          have H1 : (spec_FirstWrong.j1 kj4 a1 a2 4 a0_0 l0_1 l0_2) = some (r1, r2, r3) := by rw [if_pos rfl] at H; exact H
          clear H
          have H := H1
          clear H1
          have H' := Aside0.mk H
          clear H
          go_wp2
          go_meet
          case rel => exact ⟨_, (4), (by first | rfl | (simp; done) | (simp [*]; done)), H', ⟨by have := HJ4.out; first | omega | exact Nat.le_refl _⟩, ⟨by (with_reducible repeat (first | refine blk_drewN ?_ _ | refine blk_drew ?_ | refine blk_alloc ?_ _)); exact BK101.out⟩, ⟨by repeat (first | (with_reducible first | exact HB.out | apply below_alloc | apply pw_below_drewN | apply below_drew1 | refine below_set ?_ GE101.out) | exact HB.out)⟩⟩
        · replace c12 := Bool.eq_false_iff.mpr c12
          subst c12
          have H1 : (spec_FirstWrong.j1 kj4 a1 a2 t102 a0_0 l0_1 l0_2) = some (r1, r2, r3) := by rw [if_neg (show ¬ (false = true) by decide)] at H; exact H
          clear H
          have H := H1
          clear H1
          have H' := Aside0.mk H
          clear H
          go_wp2
          go_meet
          case rel => exact ⟨_, (t102), (by first | rfl | (simp; done) | (simp [*]; done)), H', ⟨by have := HJ4.out; first | omega | exact Nat.le_refl _⟩, ⟨by (with_reducible repeat (first | refine blk_drewN ?_ _ | refine blk_drew ?_ | refine blk_alloc ?_ _)); exact BK101.out⟩, ⟨by repeat (first | (with_reducible first | exact HB.out | apply below_alloc | apply pw_below_drewN | apply below_drew1 | refine below_set ?_ GE101.out) | exact HB.out)⟩⟩
      case rest =>
        clear HC11
        try clear c1
        try clear c2
        try clear p2
        try clear c6
        try clear c8
        try clear c8b0
        try clear c8b1
        try clear c12
        try clear p2
        obtain ⟨kq, x9_10, rfl, HA, HJ10, BK101, HB⟩ := hcut
        cases kq with
        | zero => exact absurd HA.out (by simp [spec_FirstWrong.j1])
        | succ kj10 =>
          have H := HA.out
          clear HA
          simp only [spec_FirstWrong.j1] at H
          by_cases c13 : x9_10 = 0
          · rw [if_pos c13] at H
            have c13b0 : (x9_10 == 0) = true := beq_iff_eq.mpr c13
            have c13b1 : (x9_10 != 0) = false := bne_eq_false_iff_eq.mpr c13
            clear c13
            replace H := Option.bind_eq_some_iff.mp H
            obtain ⟨⟨t104, t105, t106⟩, A140, H⟩ := H
            replace H : (if t106 = true then (some (t104, t105, 0)) else (some (0, 0, 6))) = some (r1, r2, r3) := H
            have A14 := Aside0.mk A140
            clear A140
            by_cases c15 : t106 = true
            · subst c15
              have H1 : (some (t104, t105, 0)) = some (r1, r2, r3) := by rw [if_pos rfl] at H; exact H
              clear H
              have H := H1
              clear H1
              simp only [Option.some.injEq, Prod.mk.injEq] at H
              obtain ⟨rfl, rfl, rfl⟩ := H
              go_wp2_with (first | ((with_reducible refine gate_callee (f := 66) rfl ?_); refine goesL_ (some 29) rfl rfl Try.func66 (by kernel_rfl) rfl #[.pointer (some ⟨gb101, 0, none⟩), .int .i64 a1, .int .i64 a2] rfl (by (try simp only [List.map_toArray, List.map_cons, List.map_nil]); first | done | rfl | (simp only [List.length_drop, List.length_take]; rfl)) ?_; (with_reducible refine (spec_l07Wrong.calls kj10 gb101 a0_0 A0_1 c0_1 l0_1 A0_2 c0_2 l0_2 a1 a2 t104 t105 true _ ?side1 ?side2 ?side3 ?side4 ?side5 A14.out).mono ?_); (case side1 => (with_reducible repeat (first | refine blk_drewN ?_ _ | refine blk_drew ?_ | refine blk_alloc ?_ _)); exact BK101.out); (case side2 => repeat (first | exact (Kd.C_below HR0_1.out HB.out) | (with_reducible refine Kd.C_alloc ?_ _) | (with_reducible refine Kd.C_drewN ?_ _) | (with_reducible refine Kd.C_drew ?_))); (case side3 => exact HC0_1.out); (case side4 => repeat (first | exact (Kd.C_below HR0_2.out HB.out) | (with_reducible refine Kd.C_alloc ?_ _) | (with_reducible refine Kd.C_drewN ?_ _) | (with_reducible refine Kd.C_drew ?_))); (case side5 => exact HC0_2.out); rintro e w16 ⟨rfl, hb⟩; refine ⟨_, rfl, ?_⟩; (try replace hb := Drawn0.below hb); have n0_ := Aside0.mk (blk_below (g := gb101) (o := .cells #[.int .i8 a0_0, .slice A0_1 l0_1.length c0_1, .slice A0_2 l0_2.length c0_2] 30 (0, 0)) (by (with_reducible repeat (first | refine blk_drewN ?_ _ | refine blk_drew ?_ | refine blk_alloc ?_ _)); exact BK101.out) hb); have n1_ := Aside0.mk (below_step (by repeat (first | (with_reducible first | exact HB.out | apply below_alloc | apply pw_below_drewN | apply below_drew1 | refine below_set ?_ GE101.out) | exact HB.out)) hb); clear BK101; clear HB; have BK101 := n0_; have HB := n1_; clear n0_ n1_; (try clear hb); (try clear hb2); (try clear hk); (try clear hi)))
              go_ret3
              exact ⟨by first | rfl | (simp [errW_none, errW_some] <;> rfl) | (simp [*, errW_none, errW_some] <;> rfl), by repeat (first | (with_reducible first | exact HB.out | apply below_alloc | apply pw_below_drewN | apply below_drew1 | refine below_set ?_ GE101.out) | exact HB.out)⟩
            · replace c15 := Bool.eq_false_iff.mpr c15
              subst c15
              have H1 : (some (0, 0, 6)) = some (r1, r2, r3) := by rw [if_neg (show ¬ (false = true) by decide)] at H; exact H
              clear H
              have H := H1
              clear H1
              simp only [Option.some.injEq, Prod.mk.injEq] at H
              obtain ⟨rfl, rfl, rfl⟩ := H
              go_wp2_with (first | ((with_reducible refine gate_callee (f := 66) rfl ?_); refine goesL_ (some 29) rfl rfl Try.func66 (by kernel_rfl) rfl #[.pointer (some ⟨gb101, 0, none⟩), .int .i64 a1, .int .i64 a2] rfl (by (try simp only [List.map_toArray, List.map_cons, List.map_nil]); first | done | rfl | (simp only [List.length_drop, List.length_take]; rfl)) ?_; (with_reducible refine (spec_l07Wrong.calls kj10 gb101 a0_0 A0_1 c0_1 l0_1 A0_2 c0_2 l0_2 a1 a2 t104 t105 false _ ?side1 ?side2 ?side3 ?side4 ?side5 A14.out).mono ?_); (case side1 => (with_reducible repeat (first | refine blk_drewN ?_ _ | refine blk_drew ?_ | refine blk_alloc ?_ _)); exact BK101.out); (case side2 => repeat (first | exact (Kd.C_below HR0_1.out HB.out) | (with_reducible refine Kd.C_alloc ?_ _) | (with_reducible refine Kd.C_drewN ?_ _) | (with_reducible refine Kd.C_drew ?_))); (case side3 => exact HC0_1.out); (case side4 => repeat (first | exact (Kd.C_below HR0_2.out HB.out) | (with_reducible refine Kd.C_alloc ?_ _) | (with_reducible refine Kd.C_drewN ?_ _) | (with_reducible refine Kd.C_drew ?_))); (case side5 => exact HC0_2.out); rintro e w17 ⟨rfl, hb⟩; refine ⟨_, rfl, ?_⟩; (try replace hb := Drawn0.below hb); have n0_ := Aside0.mk (blk_below (g := gb101) (o := .cells #[.int .i8 a0_0, .slice A0_1 l0_1.length c0_1, .slice A0_2 l0_2.length c0_2] 30 (0, 0)) (by (with_reducible repeat (first | refine blk_drewN ?_ _ | refine blk_drew ?_ | refine blk_alloc ?_ _)); exact BK101.out) hb); have n1_ := Aside0.mk (below_step (by repeat (first | (with_reducible first | exact HB.out | apply below_alloc | apply pw_below_drewN | apply below_drew1 | refine below_set ?_ GE101.out) | exact HB.out)) hb); clear BK101; clear HB; have BK101 := n0_; have HB := n1_; clear n0_ n1_; (try clear hb); (try clear hb2); (try clear hk); (try clear hi)))
              go_ret3
              exact ⟨by first | rfl | (simp [errW_none, errW_some] <;> rfl) | (simp [*, errW_none, errW_some] <;> rfl), by repeat (first | (with_reducible first | exact HB.out | apply below_alloc | apply pw_below_drewN | apply below_drew1 | refine below_set ?_ GE101.out) | exact HB.out)⟩
          · rw [if_neg c13] at H
            have c13b0 : (x9_10 == 0) = false := beq_eq_false_iff_ne.mpr c13
            have c13b1 : (x9_10 != 0) = true := bne_iff_ne.mpr c13
            simp only [Option.some.injEq, Prod.mk.injEq] at H
            obtain ⟨rfl, rfl, rfl⟩ := H
            go_wp2
            go_ret3
            exact ⟨by first | rfl | (simp [errW_none, errW_some] <;> rfl) | (simp [*, errW_none, errW_some] <;> rfl), by repeat (first | (with_reducible first | exact HB.out | apply below_alloc | apply pw_below_drewN | apply below_drew1 | refine below_set ?_ GE101.out) | exact HB.out)⟩
end Go.Proofs.Yteanndgkjoinmaa.X

-- Laid by wip/xprint.py of this session (the kit's print program, with some contracts given by hand). Not trusted: Lean checks it.
namespace Go.Proofs.Yteanndgkjoinmaa.X
open Go.RowKit Go.Proofs.YteanndgkjoinmaaW.PrintWords Go.Proofs.YteanndgkjoinmaaW.PrintLast Go.Proofs.YteanndgkjoinmaaW.PrintMore
attribute [local go_sem] max2_int min2_int max_two min_two max_three min_three max_four min_four
set_option linter.unusedVariables false
set_option linter.unusedSimpArgs false
def impl_within.f (a0 : Int) (a1 : Int) (a2 : Int) : Option (Bool) := if a1 ≤ a0 then (some (decide (a0 ≤ a2))) else (some false)
set_option maxHeartbeats 8000000 in
set_option maxRecDepth 100000 in
theorem impl_within.calls (a0 : Int) (a1 : Int) (a2 : Int) (r : Bool) (w : World) (h : impl_within.f a0 a1 a2 = some r) :
    Calls Try.prog 48 #[.int .i64 a0, .int .i64 a1, .int .i64 a2] w fun e w' => e = .returned (.bool r) ∧ Drawn0 w w' := by
  have H : (if a1 ≤ a0 then (some (decide (a0 ≤ a2))) else (some false)) = some r := h
  clear h
  by_cases c4 : a1 ≤ a0
  · rw [if_pos c4] at H
    have c4b0 : decide (a1 ≤ a0) = true := decide_eq_true c4
    clear c4
    obtain rfl := Option.some.inj H
    go_enter Try.func48, Try.ntmps48
    go_wp2
    go_ret
    exact ⟨by first | rfl | (simp; done) | (simp [*]; done), by repeat (first | exact Drawn0.refl _ | apply Drawn0.step)⟩
  · rw [if_neg c4] at H
    have c4b0 : decide (a1 ≤ a0) = false := decide_eq_false c4
    clear c4
    obtain rfl := Option.some.inj H
    go_enter Try.func48, Try.ntmps48
    go_wp2
    go_ret
    exact ⟨by first | rfl | (simp; done) | (simp [*]; done), by repeat (first | exact Drawn0.refl _ | apply Drawn0.step)⟩
end Go.Proofs.Yteanndgkjoinmaa.X

-- Laid by wip/xprint.py of this session (the kit's print program, with some contracts given by hand). Not trusted: Lean checks it.
namespace Go.Proofs.Yteanndgkjoinmaa.X
open Go.RowKit Go.Proofs.YteanndgkjoinmaaW.PrintWords Go.Proofs.YteanndgkjoinmaaW.PrintLast Go.Proofs.YteanndgkjoinmaaW.PrintMore
attribute [local go_sem] max2_int min2_int max_two min_two max_three min_three max_four min_four
set_option linter.unusedVariables false
set_option linter.unusedSimpArgs false
def impl_Gate_isPair.f (a0_0 : Int) (a0_1 : Int) (a0_2 : Int) : Option (Bool) := if a0_0 = 2 then (some true) else (some (a0_0 == 3))
set_option maxHeartbeats 8000000 in
set_option maxRecDepth 100000 in
theorem impl_Gate_isPair.calls (a0_0 : Int) (a0_1 : Int) (a0_2 : Int) (r : Bool) (w : World) (h : impl_Gate_isPair.f a0_0 a0_1 a0_2 = some r) :
    Calls Try.prog 49 #[.agg #[.int .i8 a0_0, .int .i16 a0_1, .int .i16 a0_2]] w fun e w' => e = .returned (.bool r) ∧ Below w.heap.size w w' := by
  have hu68 := Try.underlying68
  have HB := Aside0.mk (Below.refl w.heap.size w)
  have H : (if a0_0 = 2 then (some true) else (some (a0_0 == 3))) = some r := h
  clear h
  by_cases c2 : a0_0 = 2
  · rw [if_pos c2] at H
    have c2b0 : (a0_0 == 2) = true := beq_iff_eq.mpr c2
    have c2b1 : (a0_0 != 2) = false := bne_eq_false_iff_eq.mpr c2
    clear c2
    obtain rfl := Option.some.inj H
    go_enter Try.func49, Try.ntmps49
    go_wp2_with (first | ((with_reducible refine gate_dst (N := 1) rfl ?_); refine box_event ?hg (N := 1) ?hd (cs := #[.int .i8 a0_0, .int .i16 a0_1, .int .i16 a0_2]) (t := 68) ?hr ?_; (case hd => rfl); (case hg => rfl); (case hr => first | (go_simp; done) | (go_simp; rfl)); intro gb101 hg w3 hbox hb; have n0_ := Aside0.mk (below_step (by repeat (first | (with_reducible first | exact HB.out | apply below_alloc | apply pw_below_drewN | apply below_drew1) | exact HB.out)) hb); have n1_ := Aside0.mk (hbox); have n2_ := Aside0.mk ((by rw [hg]; exact (below_size (by repeat (first | (with_reducible first | exact HB.out | apply below_alloc | apply pw_below_drewN | apply below_drew1) | exact HB.out))) : w.heap.size ≤ gb101)); have n3_ := Aside0.mk ((by rw [hg]; exact (below_size (by repeat (first | (with_reducible first | exact HB.out | apply below_alloc | apply pw_below_drewN | apply below_drew1) | exact HB.out))) : w.heap.size ≤ gb101)); clear HB; have HB := n0_; have BK101 := n1_; have GW101 := n2_; have GE101 := n3_; clear n0_ n1_ n2_ n3_; clear hb hbox hg; have hcz4_0 : w3.cell? ⟨gb101, 0, none⟩ = some (.int .i8 a0_0) := (blk_cell BK101.out 0).trans rfl; have hcz4_1 : w3.cell? ⟨gb101, 1, none⟩ = some (.int .i16 a0_1) := (blk_cell BK101.out 1).trans rfl; have hcz4_2 : w3.cell? ⟨gb101, 2, none⟩ = some (.int .i16 a0_2) := (blk_cell BK101.out 2).trans rfl; have hfz4_0 := blk_frozen BK101.out 0; have hfz4_1 := blk_frozen BK101.out 1; have hfz4_2 := blk_frozen BK101.out 2))
    go_ret
    exact ⟨by first | rfl | (simp [errW_none, errW_some] <;> rfl) | (simp [*, errW_none, errW_some] <;> rfl), by repeat (first | (with_reducible first | exact HB.out | apply below_alloc | apply pw_below_drewN | apply below_drew1 | refine below_set ?_ GE101.out) | exact HB.out)⟩
  · rw [if_neg c2] at H
    have c2b0 : (a0_0 == 2) = false := beq_eq_false_iff_ne.mpr c2
    have c2b1 : (a0_0 != 2) = true := bne_iff_ne.mpr c2
    obtain rfl := Option.some.inj H
    go_enter Try.func49, Try.ntmps49
    go_wp2_with (first | ((with_reducible refine gate_dst (N := 1) rfl ?_); refine box_event ?hg (N := 1) ?hd (cs := #[.int .i8 a0_0, .int .i16 a0_1, .int .i16 a0_2]) (t := 68) ?hr ?_; (case hd => rfl); (case hg => rfl); (case hr => first | (go_simp; done) | (go_simp; rfl)); intro gb101 hg w5 hbox hb; have n0_ := Aside0.mk (below_step (by repeat (first | (with_reducible first | exact HB.out | apply below_alloc | apply pw_below_drewN | apply below_drew1) | exact HB.out)) hb); have n1_ := Aside0.mk (hbox); have n2_ := Aside0.mk ((by rw [hg]; exact (below_size (by repeat (first | (with_reducible first | exact HB.out | apply below_alloc | apply pw_below_drewN | apply below_drew1) | exact HB.out))) : w.heap.size ≤ gb101)); have n3_ := Aside0.mk ((by rw [hg]; exact (below_size (by repeat (first | (with_reducible first | exact HB.out | apply below_alloc | apply pw_below_drewN | apply below_drew1) | exact HB.out))) : w.heap.size ≤ gb101)); clear HB; have HB := n0_; have BK101 := n1_; have GW101 := n2_; have GE101 := n3_; clear n0_ n1_ n2_ n3_; clear hb hbox hg; have hcz6_0 : w5.cell? ⟨gb101, 0, none⟩ = some (.int .i8 a0_0) := (blk_cell BK101.out 0).trans rfl; have hcz6_1 : w5.cell? ⟨gb101, 1, none⟩ = some (.int .i16 a0_1) := (blk_cell BK101.out 1).trans rfl; have hcz6_2 : w5.cell? ⟨gb101, 2, none⟩ = some (.int .i16 a0_2) := (blk_cell BK101.out 2).trans rfl; have hfz6_0 := blk_frozen BK101.out 0; have hfz6_1 := blk_frozen BK101.out 1; have hfz6_2 := blk_frozen BK101.out 2))
    go_ret
    exact ⟨by first | rfl | (simp [errW_none, errW_some] <;> rfl) | (simp [*, errW_none, errW_some] <;> rfl), by repeat (first | (with_reducible first | exact HB.out | apply below_alloc | apply pw_below_drewN | apply below_drew1 | refine below_set ?_ GE101.out) | exact HB.out)⟩
end Go.Proofs.Yteanndgkjoinmaa.X
