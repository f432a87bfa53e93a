/- Texts of this claim, joined: what the claim's last text comes to. They hold without any condition beyond those that each states. -/
import Derived.Laws.BitsLemmas
namespace Go.Proofs.Ytadfobooofkelaa.Nim
set_option linter.unusedVariables false
def nm : Nat → Nat → Nat → Nat
  | 0, a, b => a * b
  | k + 1, a, b =>
    2 ^ 2 ^ k * (nm k (a / 2 ^ 2 ^ k) (b / 2 ^ 2 ^ k) ^^^ nm k (a / 2 ^ 2 ^ k) (b % 2 ^ 2 ^ k) ^^^ nm k (a % 2 ^ 2 ^ k) (b / 2 ^ 2 ^ k))
      + (nm k (a % 2 ^ 2 ^ k) (b % 2 ^ 2 ^ k) ^^^ nm k (nm k (a / 2 ^ 2 ^ k) (b / 2 ^ 2 ^ k)) (2 ^ 2 ^ k / 2))
theorem sq_pow (k : Nat) : 2 ^ 2 ^ (k + 1) = 2 ^ 2 ^ k * 2 ^ 2 ^ k := by rw [Nat.pow_succ, Nat.mul_two, Nat.pow_add]
theorem nm_zero_left (k : Nat) : ∀ b, nm k 0 b = 0 := by
  induction k with
  | zero => intro b; simp [nm]
  | succ k ih => intro b; simp [nm, ih]
theorem nm_zero_right (k : Nat) : ∀ a, nm k a 0 = 0 := by
  induction k with
  | zero => intro a; simp [nm]
  | succ k ih => intro a; simp [nm, ih, nm_zero_left]
theorem two_le_pp (k : Nat) : 2 ≤ 2 ^ 2 ^ k := by
  have h : 1 ≤ 2 ^ k := Nat.one_le_two_pow
  calc 2 = 2 ^ 1 := rfl
    _ ≤ 2 ^ 2 ^ k := Nat.pow_le_pow_right (by decide) h
theorem half_lt (k : Nat) : 2 ^ 2 ^ k / 2 < 2 ^ 2 ^ k := by have := two_le_pp k; omega
theorem nm_lt (k : Nat) : ∀ a b, a < 2 ^ 2 ^ k → b < 2 ^ 2 ^ k → nm k a b < 2 ^ 2 ^ k := by
  induction k with
  | zero =>
    intro a b ha hb
    have ha' : a < 2 := ha
    have hb' : b < 2 := hb
    show a * b < 2
    have : a = 0 ∨ a = 1 := by omega
    rcases this with rfl | rfl <;> omega
  | succ k ih =>
    intro a b ha hb
    rw [sq_pow] at ha hb ⊢
    have hp := Nat.two_pow_pos (2 ^ k)
    have h1 : a / 2 ^ 2 ^ k < 2 ^ 2 ^ k := Nat.div_lt_of_lt_mul ha
    have h2 : b / 2 ^ 2 ^ k < 2 ^ 2 ^ k := Nat.div_lt_of_lt_mul hb
    have h3 := Nat.mod_lt a hp
    have h4 := Nat.mod_lt b hp
    have hs := Nat.xor_lt_two_pow (Nat.xor_lt_two_pow (ih _ _ h1 h2) (ih _ _ h1 h4)) (ih _ _ h3 h2)
    have ht := Nat.xor_lt_two_pow (ih _ _ h3 h4) (ih _ _ (ih _ _ h1 h2) (half_lt k))
    simp only [nm]
    generalize (nm k (a / 2 ^ 2 ^ k) (b / 2 ^ 2 ^ k) ^^^ nm k (a / 2 ^ 2 ^ k) (b % 2 ^ 2 ^ k) ^^^ nm k (a % 2 ^ 2 ^ k) (b / 2 ^ 2 ^ k)) = s at hs ⊢
    generalize (nm k (a % 2 ^ 2 ^ k) (b % 2 ^ 2 ^ k) ^^^ nm k (nm k (a / 2 ^ 2 ^ k) (b / 2 ^ 2 ^ k)) (2 ^ 2 ^ k / 2)) = t at ht ⊢
    generalize 2 ^ 2 ^ k = D at *
    calc D * s + t < D * s + D := by omega
      _ = D * (s + 1) := by rw [Nat.mul_add, Nat.mul_one]
      _ ≤ D * D := Nat.mul_le_mul_left _ hs
theorem nm_lift (k a b : Nat) (ha : a < 2 ^ 2 ^ k) (hb : b < 2 ^ 2 ^ k) : nm (k + 1) a b = nm k a b := by
  simp only [nm, Nat.div_eq_of_lt ha, Nat.div_eq_of_lt hb, Nat.mod_eq_of_lt ha, Nat.mod_eq_of_lt hb, nm_zero_left, nm_zero_right, Nat.xor_self, Nat.mul_zero, Nat.zero_add, Nat.xor_zero]
theorem pp_le {i k : Nat} (h : i ≤ k) : 2 ^ 2 ^ i ≤ 2 ^ 2 ^ k := Nat.pow_le_pow_right (by decide) (Nat.pow_le_pow_right (by decide) h)
theorem nm_lift_le {i k : Nat} (h : i ≤ k) {a b : Nat} (ha : a < 2 ^ 2 ^ i) (hb : b < 2 ^ 2 ^ i) : nm k a b = nm i a b := by
  induction h with
  | refl => rfl
  | step h ih => rw [nm_lift _ _ _ (Nat.lt_of_lt_of_le ha (pp_le h)) (Nat.lt_of_lt_of_le hb (pp_le h)), ih]
theorem nm_small_left (k : Nat) : ∀ a b, a < 2 → nm k a b = a * b := by
  induction k with
  | zero => intro a b _; rfl
  | succ k ih =>
    intro a b ha
    have h2 := two_le_pp k
    have e1 : a / 2 ^ 2 ^ k = 0 := Nat.div_eq_of_lt (by omega)
    have e2 : a % 2 ^ 2 ^ k = a := Nat.mod_eq_of_lt (by omega)
    simp only [nm, e1, e2, nm_zero_left, Nat.xor_self, Nat.zero_xor, Nat.xor_zero, ih a _ ha]
    have hd := Nat.div_add_mod b (2 ^ 2 ^ k)
    have : a = 0 ∨ a = 1 := by omega
    rcases this with rfl | rfl
    · simp
    · rw [Nat.one_mul, Nat.one_mul, Nat.one_mul]; exact hd
theorem nm_small_right (k : Nat) : ∀ a b, b < 2 → nm k a b = a * b := by
  induction k with
  | zero => intro a b _; rfl
  | succ k ih =>
    intro a b hb
    have h2 := two_le_pp k
    have e1 : b / 2 ^ 2 ^ k = 0 := Nat.div_eq_of_lt (by omega)
    have e2 : b % 2 ^ 2 ^ k = b := Nat.mod_eq_of_lt (by omega)
    simp only [nm, e1, e2, nm_zero_right, nm_zero_left, Nat.zero_xor, Nat.xor_zero, ih _ b hb]
    have hd := Nat.div_add_mod a (2 ^ 2 ^ k)
    have : b = 0 ∨ b = 1 := by omega
    rcases this with rfl | rfl
    · simp
    · rw [Nat.mul_one, Nat.mul_one, Nat.mul_one]; exact hd
def nmI (k : Nat) (x y : Int) : Int := (nm k x.toNat y.toNat : Nat)
theorem nmI_lt (k : Nat) (N : Nat) (hN : 2 ^ 2 ^ k = N) (x y : Int) (h1 : 0 ≤ x) (h2 : x < N) (h3 : 0 ≤ y) (h4 : y < N) : 0 ≤ nmI k x y ∧ nmI k x y < N := by
  have := nm_lt k x.toNat y.toNat (by omega) (by omega)
  unfold nmI
  omega
theorem nmI_small (k : Nat) (x y : Int) (h1 : 0 ≤ x) (h2 : 0 ≤ y) (h : x < 2 ∨ y < 2) : nmI k x y = x * y := by
  obtain ⟨a, rfl⟩ := Int.eq_ofNat_of_zero_le h1
  obtain ⟨b, rfl⟩ := Int.eq_ofNat_of_zero_le h2
  unfold nmI
  simp only [Int.toNat_natCast]
  rcases h with h | h
  · rw [nm_small_left k a b (by omega)]; simp
  · rw [nm_small_right k a b (by omega)]; simp
theorem nmI_lift {i k : Nat} (h : i ≤ k) (N : Nat) (hN : 2 ^ 2 ^ i = N) (x y : Int) (h1 : 0 ≤ x) (h2 : x < N) (h3 : 0 ≤ y) (h4 : y < N) : nmI k x y = nmI i x y := by
  unfold nmI
  rw [nm_lift_le h (by omega) (by omega)]
theorem wrap_u16 (n : Int) : IntKind.u16.wrap n = n % 65536 := by simp [IntKind.wrap, IntKind.bits, IntKind.signed]
theorem xor16 (x y : Int) (h1 : 0 ≤ x) (h2 : x < 65536) (h3 : 0 ≤ y) (h4 : y < 65536) : bits .xor .u16 x y = ((x.toNat ^^^ y.toNat : Nat) : Int) := by
  obtain ⟨a, rfl⟩ := Int.eq_ofNat_of_zero_le h1
  obtain ⟨b, rfl⟩ := Int.eq_ofNat_of_zero_le h3
  have ha : a < 2 ^ 16 := by omega
  have hb : b < 2 ^ 16 := by omega
  have hx := Nat.xor_lt_two_pow ha hb
  simp only [bits, BitVec.ofInt_natCast, BitVec.toNat_xor, BitVec.toNat_ofNat, Int.toNat_natCast]
  rw [wrap_u16]
  have e1 : a % 2 ^ IntKind.u16.bits = a := Nat.mod_eq_of_lt ha
  have e2 : b % 2 ^ IntKind.u16.bits = b := Nat.mod_eq_of_lt hb
  rw [e1, e2]
  omega
theorem nmI_step (k D : Nat) (hD : 2 ^ 2 ^ k = D) (hD2 : D * D ≤ 65536) (x y : Int) (h1 : 0 ≤ x) (h2 : x < D * D) (h3 : 0 ≤ y) (h4 : y < D * D) :
    IntKind.u16.wrap (IntKind.u16.wrap (D * bits .xor .u16 (bits .xor .u16 (nmI k (x / D) (y / D)) (nmI k (x / D) (y % D))) (nmI k (x % D) (y / D))) + bits .xor .u16 (nmI k (x % D) (y % D)) (nmI k (nmI k (x / D) (y / D)) (D / 2 : Nat))) = nmI (k + 1) x y := by
  obtain ⟨a, rfl⟩ := Int.eq_ofNat_of_zero_le h1
  obtain ⟨b, rfl⟩ := Int.eq_ofNat_of_zero_le h3
  have ha : a < D * D := by exact_mod_cast h2
  have hb : b < D * D := by exact_mod_cast h4
  have hp : 0 < D := by rw [← hD]; exact Nat.two_pow_pos _
  have hD16 : D < 65536 := by
    have h2D : 2 ≤ D := by rw [← hD]; exact two_le_pp k
    have : D * 2 ≤ D * D := Nat.mul_le_mul_left _ h2D
    omega
  have a1 : a / D < D := Nat.div_lt_of_lt_mul ha
  have b1 : b / D < D := Nat.div_lt_of_lt_mul hb
  have a0 := Nat.mod_lt a hp
  have b0 := Nat.mod_lt b hp
  have hlt := nm_lt k
  have hh := half_lt k
  have hfin := nm_lt (k + 1) a b (by rw [sq_pow, hD]; exact ha) (by rw [sq_pow, hD]; exact hb)
  rw [sq_pow] at hfin
  have hxl : ∀ p q : Nat, p < D → q < D → p ^^^ q < D := fun p q hp hq => by rw [← hD] at hp hq ⊢; exact Nat.xor_lt_two_pow hp hq
  rw [hD] at hlt hh hfin
  have e1 : nmI k ((a : Int) / D) ((b : Int) / D) = ((nm k (a / D) (b / D) : Nat) : Int) := by unfold nmI; norm_cast
  have e2 : nmI k ((a : Int) / D) ((b : Int) % D) = ((nm k (a / D) (b % D) : Nat) : Int) := by unfold nmI; norm_cast
  have e3 : nmI k ((a : Int) % D) ((b : Int) / D) = ((nm k (a % D) (b / D) : Nat) : Int) := by unfold nmI; norm_cast
  have e4 : nmI k ((a : Int) % D) ((b : Int) % D) = ((nm k (a % D) (b % D) : Nat) : Int) := by unfold nmI; norm_cast
  have e5 : nmI k ((nm k (a / D) (b / D) : Nat) : Int) ((D / 2 : Nat) : Int) = ((nm k (nm k (a / D) (b / D)) (D / 2) : Nat) : Int) := by unfold nmI; norm_cast
  rw [e1, e2, e3, e4, e5]
  have l1 := hlt _ _ a1 b1
  have l2 := hlt _ _ a1 b0
  have l3 := hlt _ _ a0 b1
  have l4 := hlt _ _ a0 b0
  have l5 := hlt _ _ l1 hh
  have hnm : nm (k + 1) a b = D * (nm k (a / D) (b / D) ^^^ nm k (a / D) (b % D) ^^^ nm k (a % D) (b / D)) + (nm k (a % D) (b % D) ^^^ nm k (nm k (a / D) (b / D)) (D / 2)) := by simp only [nm, hD]
  unfold nmI
  simp only [Int.toNat_natCast]
  rw [hnm] at hfin ⊢
  generalize nm k (a / D) (b / D) = p1 at *
  generalize nm k (a / D) (b % D) = p2 at *
  generalize nm k (a % D) (b / D) = p3 at *
  generalize nm k (a % D) (b % D) = p4 at *
  generalize nm k p1 (D / 2) = p5 at *
  rw [xor16 (p1 : Int) p2 (by omega) (by omega) (by omega) (by omega)]
  simp only [Int.toNat_natCast]
  have m1 := hxl _ _ l1 l2
  rw [xor16 ((p1 ^^^ p2 : Nat) : Int) p3 (by omega) (by omega) (by omega) (by omega), xor16 (p4 : Int) p5 (by omega) (by omega) (by omega) (by omega)]
  simp only [Int.toNat_natCast]
  generalize p1 ^^^ p2 ^^^ p3 = s at *
  generalize p4 ^^^ p5 = t at *
  rw [wrap_u16, wrap_u16]
  have c1 : (D : Int) * (s : Int) = ((D * s : Nat) : Int) := by norm_cast
  rw [c1]
  generalize D * s = q at *
  omega
end Go.Proofs.Ytadfobooofkelaa.Nim
