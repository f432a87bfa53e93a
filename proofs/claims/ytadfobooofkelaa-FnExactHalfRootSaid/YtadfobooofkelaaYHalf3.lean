/- The field's half roots: the program and the reference build one basis and reduce by it alike. -/
import Derived.Test.YtadfobooofkelaaYHalf2
import Derived.Test.YtadfobooofkelaaRows
import Derived.Below
import Derived.WalkKit
import Derived.ProofKit
import Derived.OpenShut
import Derived.ShutString
import Derived.ChangeOld
import Derived.SizedLaws
namespace Go.Proofs.Ytadfobooofkelaa.Nim
set_option linter.unusedVariables false
set_option linter.unusedSimpArgs false
inductive F : Nat → Type
  | bit : Bool → F 0
  | pair {k : Nat} : F k → F k → F (k + 1)
  deriving DecidableEq
def fadd : {k : Nat} → F k → F k → F k
  | _, .bit a, .bit b => .bit (xor a b)
  | _, .pair a1 a0, .pair b1 b0 => .pair (fadd a1 b1) (fadd a0 b0)
def fzero : (k : Nat) → F k
  | 0 => .bit false
  | k + 1 => .pair (fzero k) (fzero k)
def fone : (k : Nat) → F k
  | 0 => .bit true
  | k + 1 => .pair (fzero k) (fone k)
def fh : (k : Nat) → F k
  | 0 => .bit true
  | k + 1 => .pair (fh k) (fzero k)
def fmul : {k : Nat} → F k → F k → F k
  | _, .bit a, .bit b => .bit (and a b)
  | _, .pair (k := k) a1 a0, .pair b1 b0 => .pair (fadd (fadd (fmul a1 b1) (fmul a1 b0)) (fmul a0 b1)) (fadd (fmul a0 b0) (fmul (fmul a1 b1) (fh k)))
instance (k : Nat) : Add (F k) := ⟨fadd⟩
instance (k : Nat) : Mul (F k) := ⟨fmul⟩
instance (k : Nat) : OfNat (F k) 0 := ⟨fzero k⟩
instance (k : Nat) : OfNat (F k) 1 := ⟨fone k⟩
theorem add_bit (a b : Bool) : F.bit a + F.bit b = F.bit (xor a b) := rfl
theorem mul_bit (a b : Bool) : F.bit a * F.bit b = F.bit (and a b) := rfl
theorem add_mk {k : Nat} (a1 a0 b1 b0 : F k) : F.pair a1 a0 + F.pair b1 b0 = F.pair (a1 + b1) (a0 + b0) := rfl
theorem mul_mk {k : Nat} (a1 a0 b1 b0 : F k) : F.pair a1 a0 * F.pair b1 b0 = F.pair (a1 * b1 + a1 * b0 + a0 * b1) (a0 * b0 + a1 * b1 * fh k) := rfl
theorem zero_bit : (0 : F 0) = .bit false := rfl
theorem one_bit : (1 : F 0) = .bit true := rfl
theorem zero_mk {k : Nat} : (0 : F (k + 1)) = .pair 0 0 := rfl
theorem one_mk {k : Nat} : (1 : F (k + 1)) = .pair 0 1 := rfl
theorem fadd_comm : ∀ {k : Nat} (a b : F k), a + b = b + a
  | _, .bit a, .bit b => by rw [add_bit, add_bit, Bool.xor_comm]
  | _, .pair a1 a0, .pair b1 b0 => by rw [add_mk, add_mk, fadd_comm a1, fadd_comm a0]
theorem fadd_assoc : ∀ {k : Nat} (a b c : F k), a + b + c = a + (b + c)
  | _, .bit a, .bit b, .bit c => by simp only [add_bit, Bool.xor_assoc]
  | _, .pair a1 a0, .pair b1 b0, .pair c1 c0 => by rw [add_mk, add_mk, add_mk, add_mk, fadd_assoc a1, fadd_assoc a0]
theorem fadd_self : ∀ {k : Nat} (a : F k), a + a = 0
  | _, .bit a => by rw [add_bit, Bool.xor_self]; rfl
  | _, .pair a1 a0 => by rw [add_mk, fadd_self a1, fadd_self a0]; rfl
theorem fzero_add : ∀ {k : Nat} (a : F k), 0 + a = a
  | _, .bit a => by rw [zero_bit, add_bit, Bool.false_xor]
  | _, .pair a1 a0 => by rw [zero_mk, add_mk, fzero_add a1, fzero_add a0]
theorem fadd_zero {k : Nat} (a : F k) : a + 0 = a := by rw [fadd_comm, fzero_add]
theorem fadd_left_comm {k : Nat} (a b c : F k) : a + (b + c) = b + (a + c) := by rw [← fadd_assoc, fadd_comm a, fadd_assoc]
theorem fadd_cancel {k : Nat} (a b : F k) : a + (a + b) = b := by rw [← fadd_assoc, fadd_self, fzero_add]
theorem fzero_mul : ∀ {k : Nat} (a : F k), 0 * a = 0
  | _, .bit a => by rw [zero_bit, mul_bit, Bool.false_and]
  | _, .pair a1 a0 => by rw [zero_mk, mul_mk]; simp only [fzero_mul, fzero_add]
structure Laws (k : Nat) : Prop where
  comm : ∀ a b : F k, a * b = b * a
  dist : ∀ a b c : F k, a * (b + c) = a * b + a * c
  assoc : ∀ a b c : F k, a * b * c = a * (b * c)
  one : ∀ a : F k, 1 * a = a
theorem laws : ∀ k : Nat, Laws k
  | 0 => by
    refine ⟨?_, ?_, ?_, ?_⟩
    · rintro ⟨a⟩ ⟨b⟩; rw [mul_bit, mul_bit, Bool.and_comm]
    · rintro ⟨a⟩ ⟨b⟩ ⟨c⟩; simp only [add_bit, mul_bit, Bool.and_xor_distrib_left]
    · rintro ⟨a⟩ ⟨b⟩ ⟨c⟩; simp only [mul_bit, Bool.and_assoc]
    · rintro ⟨a⟩; rw [one_bit, mul_bit, Bool.true_and]
  | k + 1 => by
    have L := laws k
    have lcomm : ∀ a b c : F k, a * (b * c) = b * (a * c) := fun a b c => by rw [← L.assoc, L.comm a b, L.assoc]
    have distr : ∀ a b c : F k, (b + c) * a = b * a + c * a := fun a b c => by rw [L.comm, L.dist, L.comm a b, L.comm a c]
    refine ⟨?_, ?_, ?_, ?_⟩
    · intro a b
      cases a with | pair a1 a0 =>
      cases b with | pair b1 b0 =>
      rw [mul_mk, mul_mk, L.comm b1 a1, L.comm b1 a0, L.comm b0 a1, L.comm b0 a0, fadd_assoc, fadd_comm (a1 * b0), ← fadd_assoc]
    · rintro ⟨a1, a0⟩ ⟨b1, b0⟩ ⟨c1, c0⟩
      simp only [mul_mk, add_mk, L.dist, distr]
      congr 1 <;> simp only [fadd_assoc, fadd_comm, fadd_left_comm]
    · rintro ⟨a1, a0⟩ ⟨b1, b0⟩ ⟨c1, c0⟩
      simp only [mul_mk, L.dist, distr, L.assoc]
      have e1 : ∀ x : F k, x * fh k = fh k * x := fun x => L.comm _ _
      congr 1
      · simp only [L.comm, lcomm, fadd_assoc, fadd_comm, fadd_left_comm]
      · simp only [L.comm, lcomm, fadd_assoc, fadd_comm, fadd_left_comm]
    · rintro ⟨a1, a0⟩
      rw [one_mk, mul_mk]
      simp only [fzero_mul, fzero_add, L.one, fadd_zero]
theorem fmul_comm {k : Nat} (a b : F k) : a * b = b * a := (laws k).comm a b
theorem fmul_assoc {k : Nat} (a b c : F k) : a * b * c = a * (b * c) := (laws k).assoc a b c
theorem fmul_left_comm {k : Nat} (a b c : F k) : a * (b * c) = b * (a * c) := by rw [← fmul_assoc, fmul_comm a b, fmul_assoc]
theorem fmul_add {k : Nat} (a b c : F k) : a * (b + c) = a * b + a * c := (laws k).dist a b c
theorem fadd_mul {k : Nat} (a b c : F k) : (a + b) * c = a * c + b * c := by rw [fmul_comm, fmul_add, fmul_comm c a, fmul_comm c b]
theorem fone_mul {k : Nat} (a : F k) : 1 * a = a := (laws k).one a
theorem fmul_one {k : Nat} (a : F k) : a * 1 = a := by rw [fmul_comm, fone_mul]
theorem fmul_zero {k : Nat} (a : F k) : a * 0 = 0 := by rw [fmul_comm, fzero_mul]
theorem fsq_add {k : Nat} (a b : F k) : (a + b) * (a + b) = a * a + b * b := by
  rw [fmul_add, fadd_mul, fadd_mul, fmul_comm b a, fadd_assoc, fadd_cancel]
def ftop : {k : Nat} → F k → Bool
  | _, .bit a => a
  | _, .pair a1 _ => ftop a1
def fpow {k : Nat} (a : F k) : Nat → F k
  | 0 => 1
  | n + 1 => a * fpow a n
theorem fpow_add {k : Nat} (a : F k) (m n : Nat) : fpow a (m + n) = fpow a m * fpow a n := by
  induction m with
  | zero => rw [Nat.zero_add]; exact (fone_mul _).symm
  | succ m ih => rw [Nat.succ_add]; show a * fpow a (m + n) = a * fpow a m * fpow a n; rw [ih, fmul_assoc]
theorem fpow_mul {k : Nat} (a b : F k) (n : Nat) : fpow (a * b) n = fpow a n * fpow b n := by
  induction n with
  | zero => exact (fone_mul _).symm
  | succ n ih =>
    show a * b * fpow (a * b) n = a * fpow a n * (b * fpow b n)
    rw [ih]
    simp only [fmul_assoc, fmul_comm, fmul_left_comm]
theorem fpow_two {k : Nat} (a : F k) (n : Nat) : fpow a (2 * n) = fpow (a * a) n := by rw [Nat.two_mul, fpow_add, fpow_mul]
theorem fpow_one {k : Nat} (a : F k) : fpow a 1 = a := fmul_one a
def fsqn {k : Nat} : Nat → F k → F k
  | 0, a => a
  | n + 1, a => fsqn n (a * a)
theorem fsqn_pow {k : Nat} : ∀ (n : Nat) (a : F k), fsqn n a = fpow a (2 ^ n)
  | 0, a => (fpow_one a).symm
  | n + 1, a => by rw [fsqn, fsqn_pow n, Nat.pow_succ, Nat.mul_comm, fpow_two]
theorem fsqn_add {k : Nat} : ∀ (n : Nat) (a b : F k), fsqn n (a + b) = fsqn n a + fsqn n b
  | 0, a, b => rfl
  | n + 1, a, b => by rw [fsqn, fsqn, fsqn, fsq_add, fsqn_add n]
def fval : {k : Nat} → F k → Nat
  | _, .bit a => a.toNat
  | _, .pair (k := k) a1 a0 => 2 ^ 2 ^ k * fval a1 + fval a0
def fof : (k : Nat) → Nat → F k
  | 0, n => .bit (decide (n % 2 = 1))
  | k + 1, n => .pair (fof k (n / 2 ^ 2 ^ k)) (fof k (n % 2 ^ 2 ^ k))
theorem fval_lt : ∀ {k : Nat} (a : F k), fval a < 2 ^ 2 ^ k
  | _, .bit a => by cases a <;> decide
  | _, .pair (k := k) a1 a0 => by
    have h1 := fval_lt a1
    have h0 := fval_lt a0
    rw [sq_pow]
    show 2 ^ 2 ^ k * fval a1 + fval a0 < _
    generalize 2 ^ 2 ^ k = D at *
    calc D * fval a1 + fval a0 < D * fval a1 + D := by omega
      _ = D * (fval a1 + 1) := by rw [Nat.mul_add, Nat.mul_one]
      _ ≤ D * D := Nat.mul_le_mul_left _ h1
theorem fval_div {k : Nat} (a1 a0 : F k) : fval (F.pair a1 a0) / 2 ^ 2 ^ k = fval a1 := by
  show (2 ^ 2 ^ k * fval a1 + fval a0) / 2 ^ 2 ^ k = _
  rw [Nat.mul_add_div (Nat.two_pow_pos _), Nat.div_eq_of_lt (fval_lt a0), Nat.add_zero]
theorem fval_mod {k : Nat} (a1 a0 : F k) : fval (F.pair a1 a0) % 2 ^ 2 ^ k = fval a0 := by
  show (2 ^ 2 ^ k * fval a1 + fval a0) % 2 ^ 2 ^ k = _
  rw [Nat.mul_add_mod, Nat.mod_eq_of_lt (fval_lt a0)]
theorem fof_val : ∀ {k : Nat} (a : F k), fof k (fval a) = a
  | _, .bit a => by cases a <;> rfl
  | _, .pair (k := k) a1 a0 => by
    show F.pair (fof k (fval (F.pair a1 a0) / 2 ^ 2 ^ k)) (fof k (fval (F.pair a1 a0) % 2 ^ 2 ^ k)) = .pair a1 a0
    rw [fval_div, fval_mod, fof_val a1, fof_val a0]
theorem fval_of : ∀ {k : Nat} (n : Nat), n < 2 ^ 2 ^ k → fval (fof k n) = n
  | 0, n, h => by
    have h' : n < 2 := h
    have : n = 0 ∨ n = 1 := by omega
    rcases this with rfl | rfl <;> rfl
  | k + 1, n, h => by
    show 2 ^ 2 ^ k * fval (fof k (n / 2 ^ 2 ^ k)) + fval (fof k (n % 2 ^ 2 ^ k)) = n
    rw [sq_pow] at h
    rw [fval_of _ (Nat.div_lt_of_lt_mul h), fval_of _ (Nat.mod_lt _ (Nat.two_pow_pos _))]
    exact Nat.div_add_mod _ _
theorem fval_inj {k : Nat} {a b : F k} (h : fval a = fval b) : a = b := by rw [← fof_val a, h, fof_val]
theorem xor_pair (i a1 a0 b1 b0 : Nat) (ha : a0 < 2 ^ i) (hb : b0 < 2 ^ i) : (2 ^ i * a1 + a0) ^^^ (2 ^ i * b1 + b0) = 2 ^ i * (a1 ^^^ b1) + (a0 ^^^ b0) := by
  apply Nat.eq_of_testBit_eq
  intro j
  have hx := Nat.xor_lt_two_pow ha hb
  rw [Nat.testBit_xor, Nat.testBit_two_pow_mul_add _ ha, Nat.testBit_two_pow_mul_add _ hb, Nat.testBit_two_pow_mul_add _ hx]
  split <;> simp [Nat.testBit_xor]
theorem fval_add : ∀ {k : Nat} (a b : F k), fval (a + b) = fval a ^^^ fval b
  | _, .bit a, .bit b => by cases a <;> cases b <;> rfl
  | _, .pair (k := k) a1 a0, .pair b1 b0 => by
    rw [add_mk]
    show 2 ^ 2 ^ k * fval (a1 + b1) + fval (a0 + b0) = (2 ^ 2 ^ k * fval a1 + fval a0) ^^^ (2 ^ 2 ^ k * fval b1 + fval b0)
    rw [xor_pair _ _ _ _ _ (fval_lt a0) (fval_lt b0), fval_add, fval_add]
theorem fval_zero : ∀ k : Nat, fval (0 : F k) = 0
  | 0 => rfl
  | k + 1 => by
    show 2 ^ 2 ^ k * fval (0 : F k) + fval (0 : F k) = 0
    rw [fval_zero k, Nat.mul_zero]
theorem fval_one : ∀ k : Nat, fval (1 : F k) = 1
  | 0 => rfl
  | k + 1 => by
    show 2 ^ 2 ^ k * fval (0 : F k) + fval (1 : F k) = 1
    rw [fval_zero k, fval_one k, Nat.mul_zero]
theorem fval_h : ∀ k : Nat, fval (fh k) = 2 ^ 2 ^ k / 2
  | 0 => rfl
  | k + 1 => by
    show 2 ^ 2 ^ k * fval (fh k) + fval (0 : F k) = 2 ^ 2 ^ (k + 1) / 2
    rw [fval_zero, fval_h k, sq_pow, Nat.add_zero]
    obtain ⟨d, hd⟩ : ∃ d, 2 ^ 2 ^ k = 2 * d := ⟨2 ^ (2 ^ k - 1), by rw [← Nat.pow_succ']; congr 1; have := Nat.one_le_two_pow (n := k); omega⟩
    rw [hd, Nat.mul_div_cancel_left _ (by decide), show 2 * d * (2 * d) = 2 * (2 * d * d) by rw [Nat.mul_assoc 2 d (2 * d), Nat.mul_comm d (2 * d)], Nat.mul_div_cancel_left _ (by decide)]
theorem fval_mul : ∀ {k : Nat} (a b : F k), fval (a * b) = nm k (fval a) (fval b)
  | _, .bit a, .bit b => by cases a <;> cases b <;> rfl
  | _, .pair (k := k) a1 a0, .pair b1 b0 => by
    rw [mul_mk]
    show 2 ^ 2 ^ k * fval (a1 * b1 + a1 * b0 + a0 * b1) + fval (a0 * b0 + a1 * b1 * fh k) = _
    simp only [nm, fval_div, fval_mod, fval_add, fval_mul, fval_h]
theorem fsqn_mul {k : Nat} (n : Nat) (a b : F k) : fsqn n (a * b) = fsqn n a * fsqn n b := by rw [fsqn_pow, fsqn_pow, fsqn_pow, fpow_mul]
theorem fsqn_fsqn {k : Nat} (m : Nat) : ∀ (n : Nat) (a : F k), fsqn (m + n) a = fsqn m (fsqn n a)
  | 0, a => rfl
  | n + 1, a => fsqn_fsqn m n (a * a)
theorem low_add {k : Nat} (a b : F k) : F.pair 0 a + F.pair 0 b = F.pair 0 (a + b) := by rw [add_mk, fadd_self]
theorem low_mul {k : Nat} (a b : F k) : F.pair 0 a * F.pair 0 b = F.pair 0 (a * b) := by
  rw [mul_mk]; simp only [fzero_mul, fmul_zero, fadd_zero]
theorem fsqn_low {k : Nat} : ∀ (n : Nat) (a : F k), fsqn n (F.pair 0 a) = F.pair 0 (fsqn n a)
  | 0, a => rfl
  | n + 1, a => by rw [fsqn, low_mul, fsqn_low n]; rfl
theorem fsqn_x {k : Nat} : ∀ n : Nat, ∃ c : F k, fsqn n (F.pair 1 0) = F.pair 1 0 + F.pair 0 c
  | 0 => ⟨0, (fadd_zero _).symm⟩
  | n + 1 => by
    obtain ⟨c, hc⟩ := fsqn_x (k := k) n
    refine ⟨c + fsqn n (fh k), ?_⟩
    have e : F.pair (1 : F k) 0 * F.pair 1 0 = F.pair 1 0 + F.pair 0 (fh k) := by
      rw [mul_mk, add_mk]; simp only [fzero_mul, fmul_zero, fadd_zero, fone_mul, fzero_add]
    rw [fsqn, e, fsqn_add, hc, fsqn_low, fadd_assoc, low_add]
theorem fsqn_self : ∀ {k : Nat} (a : F k), fsqn (2 ^ k) a = a
  | _, .bit a => by cases a <;> rfl
  | _, .pair (k := k) a1 a0 => by
    have e : F.pair a1 a0 = F.pair 0 a1 * F.pair 1 0 + F.pair 0 a0 := by
      rw [mul_mk, add_mk]; simp only [fzero_mul, fmul_zero, fadd_zero, fmul_one, fzero_add]
    obtain ⟨c, hc⟩ := fsqn_x (k := k) (2 ^ k)
    rw [Nat.pow_succ, Nat.mul_two, fsqn_fsqn, e]
    simp only [fsqn_add, fsqn_mul, fsqn_low, fsqn_self a1, fsqn_self a0, hc, fsqn_self c]
    rw [fadd_assoc (F.pair 1 0), fadd_self, fadd_zero]
end Go.Proofs.Ytadfobooofkelaa.Nim

namespace Go.Proofs.Ytadfobooofkelaa.X
set_option linter.unusedSimpArgs false
set_option linter.unusedVariables false
open Go.RowKit Go.Proofs.YtadfobooofkelaaW.PrintWords Go.Proofs.YtadfobooofkelaaW.PrintLast Go.Proofs.YtadfobooofkelaaW.PrintMore Go.Proofs.Ytadfobooofkelaa.Nim
theorem p_w64 {x : Int} (h : -9223372036854775808 ≤ x) (h2 : x ≤ 9223372036854775807) : wrap64 x = x := by unfold wrap64; omega
theorem wrap_u32 (n : Int) : IntKind.u32.wrap n = n % 4294967296 := by simp [IntKind.wrap, IntKind.bits, IntKind.signed]
theorem p_pos {α : Type} {c : Prop} [Decidable c] {g f : Nat → Option α} {r : α} (h : c) (e : Ev g r) : Ev (fun k => if c then g k else f k) r := Ev.congr (fun _ => if_pos h) e
theorem p_neg {α : Type} {c : Prop} [Decidable c] {g f : Nat → Option α} {r : α} (h : ¬ c) (e : Ev f r) : Ev (fun k => if c then g k else f k) r := Ev.congr (fun _ => if_neg h) e
theorem and32 (a b : Nat) (ha : a < 2 ^ 32) (hb : b < 2 ^ 32) : Go.bits .and .u32 (a : Int) (b : Int) = ((a &&& b : Nat) : Int) := by
  have hr : (a &&& b) < 2 ^ 32 := Nat.and_lt_two_pow _ hb
  simp only [Go.bits, BitVec.ofInt_natCast, BitVec.toNat_and, BitVec.toNat_ofNat]
  rw [wrap_u32]
  have e1 : a % 2 ^ IntKind.u32.bits = a := Nat.mod_eq_of_lt ha
  have e2 : b % 2 ^ IntKind.u32.bits = b := Nat.mod_eq_of_lt hb
  rw [e1, e2]
  omega
theorem or32 (a b : Nat) (ha : a < 2 ^ 32) (hb : b < 2 ^ 32) : Go.bits .or .u32 (a : Int) (b : Int) = ((a ||| b : Nat) : Int) := by
  have hr : (a ||| b) < 2 ^ 32 := Nat.or_lt_two_pow ha hb
  simp only [Go.bits, BitVec.ofInt_natCast, BitVec.toNat_or, BitVec.toNat_ofNat]
  rw [wrap_u32]
  have e1 : a % 2 ^ IntKind.u32.bits = a := Nat.mod_eq_of_lt ha
  have e2 : b % 2 ^ IntKind.u32.bits = b := Nat.mod_eq_of_lt hb
  rw [e1, e2]
  omega
theorem xor32 (a b : Nat) (ha : a < 2 ^ 32) (hb : b < 2 ^ 32) : Go.bits .xor .u32 (a : Int) (b : Int) = ((a ^^^ b : Nat) : Int) := by
  have hr : (a ^^^ b) < 2 ^ 32 := Nat.xor_lt_two_pow ha hb
  simp only [Go.bits, BitVec.ofInt_natCast, BitVec.toNat_xor, BitVec.toNat_ofNat]
  rw [wrap_u32]
  have e1 : a % 2 ^ IntKind.u32.bits = a := Nat.mod_eq_of_lt ha
  have e2 : b % 2 ^ IntKind.u32.bits = b := Nat.mod_eq_of_lt hb
  rw [e1, e2]
  omega
theorem shr32 (a h : Nat) (hh : h ≤ 32) : shr .u32 (a : Int) (h : Int) = ((a / 2 ^ h : Nat) : Int) := by
  unfold shr
  rw [show min ((h : Int)).toNat IntKind.u32.bits = h by simp [IntKind.bits]; omega]
  simp
theorem shl32 (a h : Nat) (hh : h ≤ 32) (hb : a * 2 ^ h < 2 ^ 32) : shl .u32 (a : Int) (h : Int) = ((a * 2 ^ h : Nat) : Int) := by
  unfold shl
  rw [show min ((h : Int)).toNat IntKind.u32.bits = h by simp [IntKind.bits]; omega, wrap_u32]
  have : ((a : Int) * 2 ^ h) = ((a * 2 ^ h : Nat) : Int) := by simp
  rw [this]
  omega
theorem mask32 (a h : Nat) (ha : a < 2 ^ 32) (hh : h ≤ 16) : Go.bits .and .u32 (a : Int) (((shl .u32 1 (h : Int)) - 1) % 4294967296) = ((a % 2 ^ h : Nat) : Int) := by
  have hp : 2 ^ h ≤ 2 ^ 16 := Nat.pow_le_pow_right (by decide) hh
  have hp0 := Nat.two_pow_pos h
  have e := shl32 1 h (by omega) (by omega)
  rw [show ((1 : Nat) : Int) = 1 from rfl] at e
  rw [e, show (((1 * 2 ^ h : Nat) : Int) - 1) % 4294967296 = ((2 ^ h - 1 : Nat) : Int) by omega, and32 a _ ha (by omega), Nat.and_two_pow_sub_one_eq_mod]
theorem join32 (s t h : Nat) (hh : h ≤ 8) (hs : s < 2 ^ h) (ht : t < 2 ^ h) : Go.bits .or .u32 (shl .u32 (s : Int) (h : Int)) (t : Int) = ((2 ^ h * s + t : Nat) : Int) := by
  have hp : 2 ^ h ≤ 2 ^ 8 := Nat.pow_le_pow_right (by decide) hh
  have hb : s * 2 ^ h < 2 ^ 32 := by
    calc s * 2 ^ h ≤ 2 ^ 8 * 2 ^ 8 := Nat.mul_le_mul (by omega) hp
      _ < 2 ^ 32 := by decide
  rw [shl32 s h (by omega) hb, or32 _ _ hb (by omega), Nat.mul_comm s, Nat.two_pow_add_eq_or_of_lt ht]
theorem join32' (s t h : Nat) (hh : h ≤ 8) (hs : s < 2 ^ h) (ht : t < 2 ^ h) : Go.bits .or .u32 (t : Int) (shl .u32 (s : Int) (h : Int)) = ((2 ^ h * s + t : Nat) : Int) := by
  have hp : 2 ^ h ≤ 2 ^ 8 := Nat.pow_le_pow_right (by decide) hh
  have hb : s * 2 ^ h < 2 ^ 32 := by
    calc s * 2 ^ h ≤ 2 ^ 8 * 2 ^ 8 := Nat.mul_le_mul (by omega) hp
      _ < 2 ^ 32 := by decide
  rw [shl32 s h (by omega) hb, or32 _ _ (by omega) hb, Nat.or_comm, Nat.mul_comm s, Nat.two_pow_add_eq_or_of_lt ht]
theorem halfbits (j : Nat) (hj : j ≤ 3) : wrap64 (Int.tdiv ((2 ^ (j + 1) : Nat) : Int) 2) = ((2 ^ j : Nat) : Int) := by
  rcases (show j = 0 ∨ j = 1 ∨ j = 2 ∨ j = 3 by omega) with rfl | rfl | rfl | rfl <;> decide +kernel
theorem fv_lt32 {j : Nat} (hj : j ≤ 4) (a : F j) : fval a < 2 ^ 32 := by
  have h := fval_lt a
  have h4 : 2 ^ j ≤ 2 ^ 4 := Nat.pow_le_pow_right (by decide) hj
  have : 2 ^ 2 ^ j ≤ 2 ^ 16 := Nat.pow_le_pow_right (by decide) h4
  omega
theorem pow_le8 (j : Nat) (hj : j ≤ 3) : 2 ^ j ≤ 8 := show 2 ^ j ≤ 2 ^ 3 from Nat.pow_le_pow_right (by decide) hj
theorem pow_nn (j : Nat) : (0 : Int) ≤ ((2 ^ j : Nat) : Int) := Int.natCast_nonneg _
theorem half_ev : ∀ (j : Nat) (a : F j), j ≤ 4 → Ev (fun k => impl_half.f k (fval a : Nat) ((2 ^ j : Nat) : Int)) ((fval (a * fh j) : Nat) : Int)
  | 0, a, _ => by
    refine Ev.step (f := fun k => impl_half.j0 k ((fval a : Nat) : Int) ((2 ^ 0 : Nat) : Int) true) (fun k => by simp only [impl_half.f]; rw [if_pos (by decide)]) ?_
    refine Ev.step (f := fun _ => some ((fval a : Nat) : Int)) (fun k => by simp only [impl_half.j0, if_true]) ?_
    rw [show a * fh 0 = a from fmul_one a]
    exact Ev.now _
  | j + 1, .pair a1 a0, hj => by
    have hj3 : j ≤ 3 := by omega
    have h8 := pow_le8 j hj3
    have hne : ¬ ((2 ^ (j + 1) : Nat) : Int) = 1 := by
      have : 2 ≤ 2 ^ (j + 1) := by rw [Nat.pow_succ]; have := Nat.one_le_two_pow (n := j); omega
      omega
    have ha := fv_lt32 hj (.pair a1 a0)
    refine Ev.step (fun k => by simp only [impl_half.f]; rfl) (p_neg hne ?_)
    by_cases h0 : fval (F.pair a1 a0) = 0
    · have hz : F.pair a1 a0 = 0 := fval_inj (by rw [h0, fval_zero])
      refine Ev.step (f := fun _ => some ((fval (F.pair a1 a0) : Nat) : Int)) (fun k => ?_) ?_
      · simp only [impl_half.j0]; rw [if_pos (by rw [h0]; rfl)]
      · rw [hz, fzero_mul]; exact Ev.now _
    · refine Ev.step (f := fun k => (impl_half.f k ((fval a1 : Nat) : Int) ((2 ^ j : Nat) : Int)).bind fun t101 => (impl_half.f k t101 ((2 ^ j : Nat) : Int)).bind fun t102 => (impl_half.f k ((fval a0 : Nat) : Int) ((2 ^ j : Nat) : Int)).bind fun t103 => some (Go.bits .or .u32 t102 (shl .u32 (Go.bits .xor .u32 t101 t103) ((2 ^ j : Nat) : Int)))) (fun k => ?_) (Ev.bind (half_ev j a1 (by omega)) (Ev.bind (half_ev j (a1 * fh j) (by omega)) (Ev.bind (half_ev j a0 (by omega)) ?_)))
      · simp only [impl_half.j0]
        rw [if_neg (by simpa using h0), halfbits j hj3, if_pos (pow_nn j), shr32 _ _ (by omega), mask32 _ _ ha (by omega), fval_div, fval_mod]
      · have l1 := fv_lt32 (by omega) (a1 * fh j)
        have l2 := fv_lt32 (by omega) (a0 * fh j)
        rw [xor32 _ _ l1 l2, ← fval_add, join32' _ _ _ h8 (fval_lt _) (fval_lt _)]
        have e : F.pair a1 a0 * fh (j + 1) = F.pair (a1 * fh j + a0 * fh j) (a1 * fh j * fh j) := by
          show F.pair a1 a0 * F.pair (fh j) 0 = _
          rw [mul_mk]
          simp only [fmul_zero, fadd_zero, fzero_add]
        rw [e]
        exact Ev.now _
theorem product_ev : ∀ (j : Nat) (a b : F j), j ≤ 4 → Ev (fun k => impl_product.f k (fval a : Nat) (fval b : Nat) ((2 ^ j : Nat) : Int)) ((fval (a * b) : Nat) : Int) := by
  intro j
  induction j with
  | zero =>
    intro a b _
    cases a with | bit a =>
    cases b with | bit b =>
    have z : ∀ a b : Bool, impl_product.f 3 ((fval (F.bit a) : Nat) : Int) ((fval (F.bit b) : Nat) : Int) ((2 ^ 0 : Nat) : Int) = some ((fval (F.bit a * F.bit b) : Nat) : Int) := by decide +kernel
    exact Ev.of (fun k => impl_product.mono _ _ _ k) (z a b)
  | succ j ih =>
    intro a b hj
    have hj3 : j ≤ 3 := by omega
    have h8 := pow_le8 j hj3
    have ha := fv_lt32 hj a
    have hb := fv_lt32 hj b
    by_cases a0 : fval a = 0
    · have hz : a = 0 := fval_inj (by rw [a0, fval_zero])
      refine Ev.step (f := fun k => impl_product.j0 k ((fval a : Nat) : Int) ((fval b : Nat) : Int) ((2 ^ (j + 1) : Nat) : Int) true) (fun k => by simp only [impl_product.f]; rw [if_pos (by omega)]) (Ev.step (f := fun _ => some 0) (fun k => by simp only [impl_product.j0, if_true]) ?_)
      rw [hz, fzero_mul, fval_zero]; exact Ev.now _
    refine Ev.step (f := fun k => impl_product.j0 k ((fval a : Nat) : Int) ((fval b : Nat) : Int) ((2 ^ (j + 1) : Nat) : Int) (((fval b : Nat) : Int) == 0)) (fun k => by simp only [impl_product.f]; rw [if_neg (by omega)]) ?_
    by_cases b0 : fval b = 0
    · have hz : b = 0 := fval_inj (by rw [b0, fval_zero])
      refine Ev.step (f := fun _ => some 0) (fun k => by simp only [impl_product.j0]; rw [if_pos (by rw [b0]; rfl)]) ?_
      rw [hz, fmul_zero, fval_zero]; exact Ev.now _
    refine Ev.step (fun k => by simp only [impl_product.j0]; rw [if_neg (by simpa using b0)]) ?_
    by_cases a1 : fval a = 1
    · have hz : a = 1 := fval_inj (by rw [a1, fval_one])
      refine p_pos (by omega) ?_
      rw [hz, fone_mul]; exact Ev.now _
    refine p_neg (by omega) ?_
    by_cases b1 : fval b = 1
    · have hz : b = 1 := fval_inj (by rw [b1, fval_one])
      refine p_pos (by omega) ?_
      rw [hz, fmul_one]; exact Ev.now _
    refine p_neg (by omega) ?_
    cases a with | pair x1 x0 =>
    cases b with | pair y1 y0 =>
    rw [halfbits j hj3]
    refine p_pos (pow_nn j) ?_
    rw [shr32 _ _ (by omega), shr32 _ _ (by omega), mask32 _ _ ha (by omega), mask32 _ _ hb (by omega), fval_div, fval_mod, fval_div, fval_mod]
    have full : Ev (fun k => impl_product.j1 k ((2 ^ j : Nat) : Int) ((fval x0 : Nat) : Int) ((fval x1 : Nat) : Int) ((fval y0 : Nat) : Int) ((fval y1 : Nat) : Int) false) ((fval (F.pair x1 x0 * F.pair y1 y0) : Nat) : Int) := by
      refine Ev.step (fun k => by simp only [impl_product.j1, Bool.false_eq_true, if_false]; rfl) (Ev.bind (ih x1 y1 (by omega)) (Ev.bind (ih x0 y0 (by omega)) ?_))
      rw [xor32 _ _ (fv_lt32 (by omega) x0) (fv_lt32 (by omega) x1), xor32 _ _ (fv_lt32 (by omega) y0) (fv_lt32 (by omega) y1), ← fval_add, ← fval_add]
      refine Ev.bind (ih (x0 + x1) (y0 + y1) (by omega)) (p_pos (pow_nn j) (Ev.bind (half_ev j (x1 * y1) (by omega)) ?_))
      rw [xor32 _ _ (fv_lt32 (by omega) _) (fv_lt32 (by omega) _), ← fval_add, join32 _ _ _ h8 (fval_lt _) (fval_lt _)]
      have hp : (2 ^ 2 ^ j * fval ((x0 + x1) * (y0 + y1) + x0 * y0) + fval (x0 * y0)) = fval (F.pair ((x0 + x1) * (y0 + y1) + x0 * y0) (x0 * y0)) := rfl
      have hq : fval (x1 * y1 * fh j) = fval (F.pair 0 (x1 * y1 * fh j)) := by
        show _ = 2 ^ 2 ^ j * fval (0 : F j) + fval (x1 * y1 * fh j)
        rw [fval_zero, Nat.mul_zero, Nat.zero_add]
      rw [hp, hq, xor32 _ _ (fv_lt32 hj _) (fv_lt32 hj _), ← fval_add]
      have e : F.pair ((x0 + x1) * (y0 + y1) + x0 * y0) (x0 * y0) + F.pair 0 (x1 * y1 * fh j) = F.pair x1 x0 * F.pair y1 y0 := by
        rw [add_mk, mul_mk, fadd_zero]
        congr 1
        simp only [fadd_mul, fmul_add]
        have : ∀ a b c d : F j, a + b + (c + d) + a = d + b + c := fun a b c d => by
          simp only [fadd_assoc, fadd_comm, fadd_left_comm, fadd_cancel, fadd_self, fadd_zero, fzero_add]
        exact this (x0 * y0) (x1 * y0) (x0 * y1) (x1 * y1)
      rw [e]
      exact Ev.now _
    by_cases hx : fval x1 = 0
    · refine p_pos (by omega) ?_
      by_cases hy : fval y1 = 0
      · have zx : x1 = 0 := fval_inj (by rw [hx, fval_zero])
        have zy : y1 = 0 := fval_inj (by rw [hy, fval_zero])
        refine Ev.step (fun k => by simp only [impl_product.j1]; rw [if_pos (by rw [hy]; rfl)]) (Ev.bind (ih x0 y0 (by omega)) ?_)
        have e : fval (F.pair x1 x0 * F.pair y1 y0) = fval (x0 * y0) := by
          rw [zx, zy, low_mul]
          show 2 ^ 2 ^ j * fval (0 : F j) + fval (x0 * y0) = _
          rw [fval_zero, Nat.mul_zero, Nat.zero_add]
        rw [e]
        exact Ev.now _
      · rw [show (((fval y1 : Nat) : Int) == 0) = false by simpa using hy]
        exact full
    · exact p_neg (by omega) full
def tI (a : F 4) : Int := (fval a : Nat)
theorem tI_lt (a : F 4) : 0 ≤ tI a ∧ tI a < 65536 := by have := fval_lt a; unfold tI; omega
theorem times_evF (a b : F 4) : Ev (fun k => impl_times.f k (tI a) (tI b)) (tI (a * b)) := by
  unfold impl_times.f
  have h1 := tI_lt a
  have h2 := tI_lt b
  have h3 := tI_lt (a * b)
  rw [show tI a % 4294967296 = tI a by omega, show tI b % 4294967296 = tI b by omega]
  refine Ev.bind (product_ev 4 a b (by decide)) ?_
  rw [show IntKind.u16.wrap ((fval (a * b) : Nat) : Int) = tI (a * b) by rw [Nim.wrap_u16]; show tI (a * b) % 65536 = _; omega]
  exact Ev.now _
end Go.Proofs.Ytadfobooofkelaa.X

namespace Go.Proofs.Ytadfobooofkelaa.X
open Go.RowKit Go.Proofs.YtadfobooofkelaaW.PrintWords Go.Proofs.YtadfobooofkelaaW.PrintLast Go.Proofs.YtadfobooofkelaaW.PrintMore Go.Proofs.Ytadfobooofkelaa.Nim
set_option linter.unusedSimpArgs false
set_option linter.unusedVariables false
theorem tI_zero : tI 0 = 0 := by unfold tI; rw [fval_zero]; rfl
theorem tI_of (x : Int) (h1 : 0 ≤ x) (h2 : x < 65536) : tI (fof 4 x.toNat) = x := by
  unfold tI
  rw [fval_of x.toNat (by show x.toNat < 65536; omega)]
  omega
theorem times_spec (a b : F 4) : spec_l01Times.f (tI a) (tI b) = some (tI (a * b)) := by
  have h1 := tI_lt a
  have h2 := tI_lt b
  unfold spec_l01Times.f
  rw [if_pos ⟨h1.1, h1.2, h2.1, h2.2⟩]
  unfold Nim.nmI tI
  rw [Int.toNat_natCast, Int.toNat_natCast, fval_mul]
abbrev tL (p : List (F 4)) : List Int := p.map tI
end Go.Proofs.Ytadfobooofkelaa.X

namespace Go.Proofs.Ytadfobooofkelaa.X
open Go.RowKit Go.Proofs.YtadfobooofkelaaW.PrintWords Go.Proofs.YtadfobooofkelaaW.PrintLast Go.Proofs.YtadfobooofkelaaW.PrintMore Go.Proofs.Ytadfobooofkelaa.Nim
set_option linter.unusedSimpArgs false
set_option linter.unusedVariables false
abbrev P2 := Int × Int
def xr (a b : Int) : Int := Go.bits .xor .u16 a b
def redS : P2 → List P2 → P2
  | v, [] => v
  | v, b :: bs => if xr v.1 b.1 < v.1 then redS (xr v.1 b.1, xr v.2 b.2) bs else redS v bs
def swapAt (B : List P2) (i : Nat) : List P2 := (B.set i (B.getD (i - 1) (0, 0))).set (i - 1) (B.getD i (0, 0))
def bub : List P2 → Nat → List P2
  | B, 0 => B
  | B, i + 1 => if (B.getD (i + 1) (0, 0)).1 > (B.getD i (0, 0)).1 then bub (swapAt B (i + 1)) i else B
def own (k : Nat) : Int := shl .u16 1 (k : Int)
def rowOf (k : Nat) : Int := xr (own k) (nmI 4 (own k) (own k))
def nxt (k : Nat) (B : List P2) : List P2 := bub (B ++ [redS (rowOf k, own k) B]) B.length
def Bs : Nat → List P2
  | 0 => []
  | k + 1 => nxt (k + 1) (Bs k)
def rows (B : List P2) : List Int := B.map (·.1)
def froms (B : List P2) : List Int := B.map (·.2)
def imgs (B : List P2) : List S175 := B.map fun p => ⟨p.1, p.2⟩
theorem rows_rd (B : List P2) (i : Nat) : rd (rows B) (i : Int) = (B.getD i (0, 0)).1 := by
  simp only [rd, rows, Int.toNat_natCast, List.getD_eq_getElem?_getD, List.getElem?_map]
  cases B[i]? <;> rfl
theorem froms_rd (B : List P2) (i : Nat) : rd (froms B) (i : Int) = (B.getD i (0, 0)).2 := by
  simp only [rd, froms, Int.toNat_natCast, List.getD_eq_getElem?_getD, List.getElem?_map]
  cases B[i]? <;> rfl
theorem imgs_rd (B : List P2) (i : Nat) : rd_T175 (imgs B) (i : Int) = ⟨(B.getD i (0, 0)).1, (B.getD i (0, 0)).2⟩ := by
  simp only [rd_T175, imgs, Int.toNat_natCast, List.getD_eq_getElem?_getD, List.getElem?_map]
  cases B[i]? <;> rfl
theorem rows_len (B : List P2) : (rows B).length = B.length := by simp [rows]
theorem froms_len (B : List P2) : (froms B).length = B.length := by simp [froms]
theorem imgs_len (B : List P2) : (imgs B).length = B.length := by simp [imgs]
theorem rows_set (B : List P2) (i : Nat) (p : P2) : rows (B.set i p) = (rows B).set i p.1 := by simp [rows, List.map_set]
theorem froms_set (B : List P2) (i : Nat) (p : P2) : froms (B.set i p) = (froms B).set i p.2 := by simp [froms, List.map_set]
theorem drop_P2 (B : List P2) (i : Nat) (h : i < B.length) : B.drop i = B.getD i (0, 0) :: B.drop (i + 1) := by
  rw [List.drop_eq_getElem_cons h]
  simp [List.getD_eq_getElem?_getD, h]
theorem w64n (i : Nat) (h : i < 4611686018427387904) : wrap64 ((i : Int) + 1) = ((i + 1 : Nat) : Int) := by rw [p_w64 (by omega) (by omega)]; rfl
theorem shalf_l1 (x0 x6 x7 : Int) (B : List P2) (hB : B.length ≤ 20) (r : Int × Bool) : ∀ (d i : Nat) (v : P2), B.length - i = d → i ≤ B.length →
    Ev (fun k => spec_l01Half.l2 k x0 (rows (B ++ [redS v (B.drop i)])) (froms (B ++ [redS v (B.drop i)])) x6 x7 (B.length : Int)) r → Ev (fun k => spec_l01Half.l1 k x0 (rows B) (froms B) x6 x7 v.2 v.1 (i : Int)) r := by
  intro d
  induction d with
  | zero =>
    intro i v hd hi h
    have e : i = B.length := by omega
    subst e
    rw [List.drop_length, redS] at h
    refine Ev.step (fun k => ?_) h
    simp only [spec_l01Half.l1, rows_len, froms_len, Option.bind_some]
    rw [if_neg (by omega), if_pos (by omega), if_pos (by omega)]
    simp only [List.length_append, rows_len, List.length_singleton]
    rw [p_w64 (by omega) (by omega)]
    simp [rows, froms]
  | succ d ih =>
    intro i v hd hi h
    have hlt : i < B.length := by omega
    rw [drop_P2 B i hlt, redS] at h
    by_cases hc : xr v.1 (B.getD i (0, 0)).1 < v.1
    · rw [if_pos hc] at h
      refine Ev.step (fun k => ?_) (ih (i + 1) _ (by omega) (by omega) h)
      simp only [spec_l01Half.l1, rows_len, froms_len, rows_rd, froms_rd]
      rw [if_pos (by omega), if_pos (by omega), if_pos (show Go.bits .xor .u16 _ _ < _ from hc), if_pos (by omega), w64n i (by omega)]
      rfl
    · rw [if_neg hc] at h
      refine Ev.step (fun k => ?_) (ih (i + 1) _ (by omega) (by omega) h)
      simp only [spec_l01Half.l1, rows_len, froms_len, rows_rd, froms_rd]
      rw [if_pos (by omega), if_pos (by omega), if_neg (show ¬ Go.bits .xor .u16 _ _ < _ from hc), w64n i (by omega)]
theorem swap_len (B : List P2) (i : Nat) : (swapAt B i).length = B.length := by simp [swapAt]
theorem bub_len : ∀ (i : Nat) (B : List P2), (bub B i).length = B.length
  | 0, B => rfl
  | i + 1, B => by
    rw [bub]
    split
    · rw [bub_len i, swap_len]
    · rfl
theorem shalf_l2 (x0 x6 x7 : Int) (r : Int × Bool) : ∀ (i : Nat) (B : List P2), i < B.length → B.length ≤ 20 →
    Ev (fun k => spec_l01Half.l0 k x0 (rows (bub B i)) (froms (bub B i)) x6 (IntKind.u64.wrap (x7 + 1))) r → Ev (fun k => spec_l01Half.l2 k x0 (rows B) (froms B) x6 x7 (i : Int)) r
  | 0, B, hi, hl, h => by
    refine Ev.step (fun k => ?_) h
    simp only [spec_l01Half.l2]
    rw [if_neg (by omega)]
    rfl
  | i + 1, B, hi, hl, h => by
    have e1 : wrap64 (((i + 1 : Nat) : Int) - 1) = (i : Int) := by rw [p_w64 (by omega) (by omega)]; omega
    rw [bub] at h
    by_cases hc : (B.getD (i + 1) (0, 0)).1 > (B.getD i (0, 0)).1
    · rw [if_pos hc] at h
      refine Ev.step (fun k => ?_) (shalf_l2 x0 x6 x7 r i (swapAt B (i + 1)) (by rw [swap_len]; omega) (by rw [swap_len]; omega) h)
      simp only [spec_l01Half.l2, e1, rows_len, froms_len]
      simp only [rows_rd, froms_rd]
      rw [if_pos (by omega), if_pos (by omega), if_pos (by omega), if_pos (by omega), if_pos (by omega), if_pos hc, if_pos (by omega), if_pos (by omega)]
      simp only [Int.toNat_natCast, swapAt, rows_set, froms_set, Nat.add_sub_cancel]
    · rw [if_neg hc] at h
      refine Ev.step (fun k => ?_) h
      simp only [spec_l01Half.l2, e1, rows_len, froms_len]
      simp only [rows_rd, froms_rd]
      rw [if_pos (by omega), if_pos (by omega), if_pos (by omega), if_pos (by omega), if_pos (by omega), if_neg hc]
theorem shalf_l3 (B : List P2) (hB : B.length ≤ 20) : ∀ (d i : Nat) (v : P2), B.length - i = d → i ≤ B.length →
    Ev (fun k => spec_l01Half.l3 k v.1 (rows B) (froms B) v.2 (i : Int)) ((redS v (B.drop i)).2, (redS v (B.drop i)).1 == 0) := by
  intro d
  induction d with
  | zero =>
    intro i v hd hi
    have e : i = B.length := by omega
    subst e
    rw [List.drop_length, redS]
    refine Ev.step (f := fun _ => some (v.2, v.1 == 0)) (fun k => ?_) (Ev.now _)
    simp only [spec_l01Half.l3, rows_len]
    rw [if_neg (by omega)]
  | succ d ih =>
    intro i v hd hi
    have hlt : i < B.length := by omega
    rw [drop_P2 B i hlt, redS]
    by_cases hc : xr v.1 (B.getD i (0, 0)).1 < v.1
    · rw [if_pos hc]
      refine Ev.step (fun k => ?_) (ih (i + 1) _ (by omega) (by omega))
      simp only [spec_l01Half.l3, rows_len, froms_len, rows_rd, froms_rd]
      rw [if_pos (by omega), if_pos (by omega), if_pos (show Go.bits .xor .u16 _ _ < _ from hc), if_pos (by omega), w64n i (by omega)]
      rfl
    · rw [if_neg hc]
      refine Ev.step (fun k => ?_) (ih (i + 1) _ (by omega) (by omega))
      simp only [spec_l01Half.l3, rows_len, froms_len, rows_rd, froms_rd]
      rw [if_pos (by omega), if_pos (by omega), if_neg (show ¬ Go.bits .xor .u16 _ _ < _ from hc), w64n i (by omega)]
theorem Bs_len : ∀ k, (Bs k).length = k
  | 0 => rfl
  | k + 1 => by rw [Bs, nxt, bub_len]; simp [Bs_len k]
theorem shalf_l0 (x0 : Int) (r : Int × Bool) (hr : Ev (fun k => spec_l01Half.l3 k x0 (rows (Bs 15)) (froms (Bs 15)) 0 0) r) : ∀ (d j : Nat), 15 - j = d → j ≤ 15 →
    Ev (fun k => spec_l01Half.l0 k x0 (rows (Bs j)) (froms (Bs j)) 0 ((j + 1 : Nat) : Int)) r := by
  intro d
  induction d with
  | zero =>
    intro j hd hj
    have e : j = 15 := by omega
    subst e
    refine Ev.step (fun k => ?_) hr
    simp only [spec_l01Half.l0]
    rw [if_neg (by omega)]
  | succ d ih =>
    intro j hd hj
    have hw : IntKind.u64.wrap (((j + 1 : Nat) : Int) + 1) = ((j + 1 + 1 : Nat) : Int) := by
      simp [IntKind.wrap, IntKind.bits, IntKind.signed]; omega
    have hnext := ih (j + 1) (by omega) (by omega)
    have hl := Bs_len j
    have h2 : Ev (fun k => spec_l01Half.l2 k x0 (rows (Bs j ++ [redS (rowOf (j + 1), own (j + 1)) (Bs j)])) (froms (Bs j ++ [redS (rowOf (j + 1), own (j + 1)) (Bs j)])) 0 ((j + 1 : Nat) : Int) ((Bs j).length : Int)) r := by
      refine shalf_l2 x0 0 _ r (Bs j).length _ (by simp) (by simp; omega) ?_
      rw [hw]
      exact hnext
    have h1 := shalf_l1 x0 0 ((j + 1 : Nat) : Int) (Bs j) (by omega) r (Bs j).length 0 (rowOf (j + 1), own (j + 1)) (by omega) (by omega) h2
    have hown : 0 ≤ own (j + 1) ∧ own (j + 1) < 65536 := by
      have : ∀ i, i < 16 → 0 ≤ own i ∧ own i < 65536 := by decide +kernel
      exact this (j + 1) (by omega)
    have ht : spec_l01Times.f (own (j + 1)) (own (j + 1)) = some (nmI 4 (own (j + 1)) (own (j + 1))) := by
      unfold spec_l01Times.f
      rw [if_pos ⟨hown.1, hown.2, hown.1, hown.2⟩]
    refine Ev.step (fun k => ?_) h1
    simp only [spec_l01Half.l0]
    rw [if_pos (by omega), if_pos (by omega)]
    show (spec_l01Times.f (own (j + 1)) (own (j + 1))).bind _ = _
    rw [ht]
    rfl
theorem shalf_ev (x0 : Int) : Ev (fun k => spec_l01Half.f k x0) ((redS (x0, 0) (Bs 15)).2, (redS (x0, 0) (Bs 15)).1 == 0) := by
  unfold spec_l01Half.f
  have h3 := shalf_l3 (Bs 15) (by rw [Bs_len]; decide) (Bs 15).length 0 (x0, 0) (by omega) (by omega)
  rw [List.drop_zero] at h3
  exact shalf_l0 x0 _ h3 15 0 (by omega) (by omega)
open Go.Sort Go.Lib in
theorem srt_eq (l l' : List S175) (h1 : inIm l = true) (hp : l'.Perm l) (hs : l'.Pairwise fun x y => y.f0 < x.f0) : srtIm l = l' := by
  rw [inIm, Bool.and_eq_true, Bool.and_eq_true, decide_eq_true_eq, decide_eq_true_eq] at h1
  obtain ⟨⟨hn, hsz⟩, hall⟩ := h1
  have hall2 : (l'.all fun x => decide (0 ≤ x.f0 ∧ x.f0 < 65536)) = true := by
    rw [List.all_eq_true] at hall ⊢
    exact fun x hx => hall x (hp.mem_iff.1 hx)
  have hps := pdq_sorts (ltOf cfIm) swoIm (l.map toIm).toArray 0 (l.map toIm).toArray.size (Lib.bitLen (l.map toIm).toArray.size) true true (Nat.zero_le _) (Nat.le_refl _) (Or.inl rfl)
  have e1 : (l.map toIm).toArray.size = l.length := by simp
  rw [e1] at hps
  unfold srtIm
  generalize pdq (ltOf cfIm) (l.map toIm).toArray 0 l.length (Lib.bitLen l.length) true true = d at hps ⊢
  obtain ⟨⟨p1, p2, p3⟩, p4⟩ := hps
  have hd : d.size = l.length := by rw [p1]; simp
  have hperm : d.toList.Perm (l.map toIm) := by
    have e2 : (d.extract 0 l.length) = d := by rw [← hd]; simp
    have e3 : ((l.map toIm).toArray.extract 0 l.length) = (l.map toIm).toArray := by
      have : l.length = (l.map toIm).toArray.size := by simp
      rw [this, Array.extract_size]
    rw [e2, e3] at p3
    simpa using p3
  have hmap : (l'.map toIm).map ofIm = l' := map_im l' hall2
  have key : d.toList = l'.map toIm := by
    refine List.Perm.eq_of_pairwise (le := fun x y => y.1.val ≤ x.1.val) ?_ ?_ ?_ (hperm.trans ((hp.map toIm).symm))
    · intro a b ha hb h1 h2
      have ha' : a ∈ l'.map toIm := (hperm.trans ((hp.map toIm).symm)).mem_iff.1 ha
      obtain ⟨x, hx, rfl⟩ := List.mem_map.1 ha'
      obtain ⟨y, hy, rfl⟩ := List.mem_map.1 hb
      rw [List.all_eq_true] at hall2
      have bx := of_decide_eq_true (hall2 x hx)
      have by_ := of_decide_eq_true (hall2 y hy)
      have exy : x.f0 = y.f0 := by
        simp only [toIm] at h1 h2
        omega
      have : x = y := by
        obtain ⟨i, hi, rfl⟩ := List.mem_iff_getElem.1 hx
        obtain ⟨j, hj, rfl⟩ := List.mem_iff_getElem.1 hy
        rcases Nat.lt_trichotomy i j with h | h | h
        · have := List.pairwise_iff_getElem.1 hs i j hi hj h
          omega
        · subst h; rfl
        · have := List.pairwise_iff_getElem.1 hs j i hj hi h
          omega
      rw [this]
    · rw [List.pairwise_iff_getElem]
      intro i j hi hj hij
      have := p4 i j (Nat.zero_le _) hij (by simpa [hd] using hj)
      rw [getElem!_pos d j (by simpa using hj), getElem!_pos d i (by simpa using hi), ltIm, decide_eq_false_iff_not] at this
      simp only [Array.getElem_toList]
      omega
    · rw [List.pairwise_map]
      refine List.Pairwise.imp_of_mem ?_ hs
      intro a b ha hb h
      rw [List.all_eq_true] at hall2
      have ba := of_decide_eq_true (hall2 a ha)
      have bb := of_decide_eq_true (hall2 b hb)
      simp only [toIm]
      omega
  rw [key, hmap]
def okStep (k : Nat) : Bool :=
  let v := redS (rowOf (k + 1), own (k + 1)) (Bs k)
  let l := imgs (Bs k ++ [v])
  decide (v.1 ≠ 0) && inIm l && (Bs (k + 1)).isPerm (Bs k ++ [v]) && ((List.range (k + 1)).all fun i => (List.range i).all fun j => decide (((Bs (k + 1)).getD i (0, 0)).1 < ((Bs (k + 1)).getD j (0, 0)).1))
set_option maxRecDepth 100000 in
theorem okSteps : ∀ k, k < 15 → okStep k = true := by decide +kernel
theorem step_imgs (k : Nat) (hk : k < 15) : (redS (rowOf (k + 1), own (k + 1)) (Bs k)).1 ≠ 0 ∧ inIm (imgs (Bs k ++ [redS (rowOf (k + 1), own (k + 1)) (Bs k)])) = true ∧ srtIm (imgs (Bs k ++ [redS (rowOf (k + 1), own (k + 1)) (Bs k)])) = imgs (Bs (k + 1)) := by
  have h := okSteps k hk
  simp only [okStep, Bool.and_eq_true, decide_eq_true_eq] at h
  obtain ⟨⟨⟨h1, h2⟩, h3⟩, h4⟩ := h
  refine ⟨h1, h2, srt_eq _ _ h2 ((List.isPerm_iff.1 h3).map _) ?_⟩
  rw [imgs, List.pairwise_map, List.pairwise_iff_getElem]
  intro i j hi hj hij
  rw [List.all_eq_true] at h4
  have hl := Bs_len (k + 1)
  have h5 := h4 j (List.mem_range.2 (by omega))
  rw [List.all_eq_true] at h5
  have h6 := of_decide_eq_true (h5 i (List.mem_range.2 hij))
  simpa [List.getD_eq_getElem?_getD, hi, hj] using h6
theorem andNot16 (x : Int) (h1 : 0 ≤ x) (h2 : x < 65536) : Go.bits .andNot .u16 x 1 = ((x.toNat &&& 65534 : Nat) : Int) := by
  obtain ⟨a, rfl⟩ := Int.eq_ofNat_of_zero_le h1
  have ha : a < 2 ^ 16 := by omega
  have hx : a &&& 65534 < 2 ^ 16 := Nat.and_lt_two_pow a (by decide)
  have e0 : (~~~(BitVec.ofInt IntKind.u16.bits 1)).toNat = 65534 := by decide
  simp only [Go.bits, BitVec.toNat_and, e0, BitVec.ofInt_natCast, BitVec.toNat_ofNat, Int.toNat_natCast]
  rw [Nim.wrap_u16]
  have e1 : a % 2 ^ IntKind.u16.bits = a := Nat.mod_eq_of_lt ha
  rw [e1]
  omega
def ev16 (x : Int) : Prop := 0 ≤ x ∧ x < 65536 ∧ x.toNat &&& 65534 = x.toNat
instance (x : Int) : Decidable (ev16 x) := inferInstanceAs (Decidable (_ ∧ _))
theorem ev16_xor {x y : Int} (hx : ev16 x) (hy : ev16 y) : ev16 (xr x y) := by
  have e := Nim.xor16 x y hx.1 hx.2.1 hy.1 hy.2.1
  have hlt : x.toNat ^^^ y.toNat < 2 ^ 16 := Nat.xor_lt_two_pow (by have := hx.2.1; omega) (by have := hy.2.1; omega)
  unfold xr
  rw [e]
  refine ⟨by omega, by omega, ?_⟩
  rw [Int.toNat_natCast, Nat.and_xor_distrib_right, hx.2.2, hy.2.2]
theorem ev16_andNot {x : Int} (hx : ev16 x) : Go.bits .andNot .u16 x 1 = x := by
  rw [andNot16 x hx.1 hx.2.1, hx.2.2]
  have := hx.1
  omega
theorem red_ev : ∀ (B : List P2) (v : P2), ev16 v.2 → (∀ b ∈ B, ev16 b.2) → ev16 (redS v B).2
  | [], v, hv, _ => hv
  | b :: B, v, hv, hB => by
    rw [redS]
    split
    · exact red_ev B _ (ev16_xor hv (hB b (by simp))) fun b hb => hB b (by simp [hb])
    · exact red_ev B _ hv fun b hb => hB b (by simp [hb])
set_option maxRecDepth 100000 in
theorem Bs_ev : ∀ b ∈ Bs 15, ev16 b.2 := by decide +kernel
theorem half_even (x : Int) : Go.bits .andNot .u16 (redS (x, 0) (Bs 15)).2 1 = (redS (x, 0) (Bs 15)).2 := ev16_andNot (red_ev _ _ (show ev16 0 from by decide) Bs_ev)
theorem own_lt (k : Nat) (h : k < 16) : 0 ≤ own k ∧ own k < 65536 := by
  have : ∀ i, i < 16 → 0 ≤ own i ∧ own i < 65536 := by decide +kernel
  exact this k h
theorem times_evI (x y : Int) (h1 : 0 ≤ x) (h2 : x < 65536) (h3 : 0 ≤ y) (h4 : y < 65536) : Ev (fun k => impl_times.f k x y) (nmI 4 x y) := by
  have h := times_evF (fof 4 x.toNat) (fof 4 y.toNat)
  have hs := times_spec (fof 4 x.toNat) (fof 4 y.toNat)
  rw [tI_of x h1 h2, tI_of y h3 h4] at h hs
  unfold spec_l01Times.f at hs
  rw [if_pos ⟨h1, h2, h3, h4⟩] at hs
  rw [Option.some.inj hs]
  exact h
theorem xr_comm (x y : Int) : xr x y = xr y x := by simp only [xr, Go.bits, BitVec.xor_comm]
theorem ihalf_l1 (x0 x5 : Int) (B : List P2) (hB : B.length ≤ 20) (r : Int × Bool) (z : P2) (hz : z.1 ≠ 0) (h : Ev (fun k => (impl_image.f (imgs (B ++ [z]))).bind fun t => impl_halfRoot.l0 k x0 t (wrap64 (x5 + 1))) r) : ∀ (d i : Nat) (v : P2), B.length - i = d → i ≤ B.length → redS v (B.drop i) = z →
    Ev (fun k => impl_halfRoot.l1 k x0 (imgs B) x5 (imgs B) (B.length : Int) (i : Int) v.1 v.2) r := by
  intro d
  induction d with
  | zero =>
    intro i v hd hi hv
    have e : i = B.length := by omega
    subst e
    rw [List.drop_length, redS] at hv
    subst hv
    refine Ev.step (fun k => ?_) h
    simp only [impl_halfRoot.l1, imgs_len]
    rw [if_neg (by omega), if_neg hz, if_pos (by omega)]
    simp [imgs]
  | succ d ih =>
    intro i v hd hi hv
    have hlt : i < B.length := by omega
    rw [drop_P2 B i hlt, redS] at hv
    by_cases hc : xr v.1 (B.getD i (0, 0)).1 < v.1
    · rw [if_pos hc] at hv
      refine Ev.step (fun k => ?_) (ih (i + 1) _ (by omega) (by omega) hv)
      simp only [impl_halfRoot.l1, imgs_len, imgs_rd]
      rw [if_pos (by omega), if_pos (by omega), if_pos (by omega), if_pos (show Go.bits .xor .u16 _ _ < _ from hc), w64n i (by omega)]
      rfl
    · rw [if_neg hc] at hv
      refine Ev.step (fun k => ?_) (ih (i + 1) _ (by omega) (by omega) hv)
      simp only [impl_halfRoot.l1, imgs_len, imgs_rd]
      rw [if_pos (by omega), if_pos (by omega), if_pos (by omega), if_neg (show ¬ Go.bits .xor .u16 _ _ < _ from hc), w64n i (by omega)]
theorem ihalf_l2 (B : List P2) (hB : B.length ≤ 20) : ∀ (d i : Nat) (v : P2), B.length - i = d → i ≤ B.length →
    Ev (fun k => impl_halfRoot.l2 k v.1 v.2 (imgs B) (B.length : Int) (i : Int)) (Go.bits .andNot .u16 (redS v (B.drop i)).2 1, (redS v (B.drop i)).1 == 0) := by
  intro d
  induction d with
  | zero =>
    intro i v hd hi
    have e : i = B.length := by omega
    subst e
    rw [List.drop_length, redS]
    refine Ev.step (f := fun _ => some (Go.bits .andNot .u16 v.2 1, v.1 == 0)) (fun k => ?_) (Ev.now _)
    simp only [impl_halfRoot.l2, imgs_len]
    rw [if_neg (by omega)]
  | succ d ih =>
    intro i v hd hi
    have hlt : i < B.length := by omega
    rw [drop_P2 B i hlt, redS]
    by_cases hc : xr v.1 (B.getD i (0, 0)).1 < v.1
    · rw [if_pos hc]
      refine Ev.step (fun k => ?_) (ih (i + 1) _ (by omega) (by omega))
      simp only [impl_halfRoot.l2, imgs_len, imgs_rd]
      rw [if_pos (by omega), if_pos (by omega), if_pos (by omega), if_pos (show Go.bits .xor .u16 _ _ < _ from hc), w64n i (by omega)]
      rfl
    · rw [if_neg hc]
      refine Ev.step (fun k => ?_) (ih (i + 1) _ (by omega) (by omega))
      simp only [impl_halfRoot.l2, imgs_len, imgs_rd]
      rw [if_pos (by omega), if_pos (by omega), if_pos (by omega), if_neg (show ¬ Go.bits .xor .u16 _ _ < _ from hc), w64n i (by omega)]
theorem ihalf_l0 (x0 : Int) (r : Int × Bool) (hr : Ev (fun k => impl_halfRoot.l2 k x0 0 (imgs (Bs 15)) ((Bs 15).length : Int) 0) r) : ∀ (d j : Nat), 15 - j = d → j ≤ 15 →
    Ev (fun k => impl_halfRoot.l0 k x0 (imgs (Bs j)) ((j + 1 : Nat) : Int)) r := by
  intro d
  induction d with
  | zero =>
    intro j hd hj
    have e : j = 15 := by omega
    subst e
    refine Ev.step (fun k => ?_) hr
    simp only [impl_halfRoot.l0, imgs_len]
    rw [if_neg (by omega)]
  | succ d ih =>
    intro j hd hj
    have hw : wrap64 (((j + 1 : Nat) : Int) + 1) = ((j + 1 + 1 : Nat) : Int) := w64n (j + 1) (by omega)
    have hnext := ih (j + 1) (by omega) (by omega)
    have hl := Bs_len j
    obtain ⟨s1, s2, s3⟩ := step_imgs j (by omega)
    have h1 := ihalf_l1 x0 ((j + 1 : Nat) : Int) (Bs j) (by omega) r _ s1 (by
      rw [hw]
      refine Ev.congr (fun k => ?_) hnext
      unfold impl_image.f
      rw [if_pos s2, s3]
      rfl) (Bs j).length 0 (rowOf (j + 1), own (j + 1)) (by omega) (by omega) rfl
    have hown := own_lt (j + 1) (by omega)
    refine Ev.step (f := fun k => (impl_times.f k (own (j + 1)) (own (j + 1))).bind fun t => impl_halfRoot.l1 k x0 (imgs (Bs j)) ((j + 1 : Nat) : Int) (imgs (Bs j)) ((Bs j).length : Int) ((0 : Nat) : Int) (xr t (own (j + 1))) (own (j + 1))) (fun k => ?_) (Ev.bind (times_evI _ _ hown.1 hown.2 hown.1 hown.2) ?_)
    · simp only [impl_halfRoot.l0, imgs_len]
      rw [if_pos (by omega), if_pos (by omega)]
      rfl
    · rw [xr_comm]
      exact h1
theorem ihalf_ev (x0 : Int) : Ev (fun k => impl_halfRoot.f k x0) ((redS (x0, 0) (Bs 15)).2, (redS (x0, 0) (Bs 15)).1 == 0) := by
  unfold impl_halfRoot.f
  have h3 := ihalf_l2 (Bs 15) (by rw [Bs_len]; decide) (Bs 15).length 0 (x0, 0) (by omega) (by omega)
  rw [List.drop_zero, half_even] at h3
  exact ihalf_l0 x0 _ h3 15 0 (by omega) (by omega)
end Go.Proofs.Ytadfobooofkelaa.X

namespace Go.Proofs.Ytadfobooofkelaa.Pure
open Go.RowKit Go.Proofs.Ytadfobooofkelaa.X Go.Proofs.YtadfobooofkelaaW.PrintWords Go.Proofs.YtadfobooofkelaaW.PrintLast
theorem FnExactHalfRoot : laws_FnExactHalfRoot.Pure := by
  intro x _
  refine Ev.rounds ?_
  unfold laws_FnExactHalfRoot.f spec_HalfRoot.f impl_HalfRoot.f
  generalize hv : redS (x, 0) (Bs 15) = v
  have h1 := shalf_ev x
  have h2 := ihalf_ev x
  rw [hv] at h1 h2
  by_cases hc : (v.1 == 0) = true
  · have e1 : Ev (fun k => (spec_l01Half.f k x).bind fun bt101 => if bt101.2 = true then some (bt101.1, (0 : Int)) else some (0, 6)) (v.2, 0) := Ev.bind h1 (p_pos hc (Ev.now _))
    have e2 : Ev (fun k => (impl_halfRoot.f k x).bind fun bt101 => if bt101.2 = true then some (bt101.1, (0 : Int)) else some (0, 6)) (v.2, 0) := Ev.bind h2 (p_pos hc (Ev.now _))
    exact Ev.bind e1 (Ev.bind e2 (p_pos rfl (p_pos rfl (Ev.now _))))
  · have e1 : Ev (fun k => (spec_l01Half.f k x).bind fun bt101 => if bt101.2 = true then some (bt101.1, (0 : Int)) else some (0, 6)) (0, 6) := Ev.bind h1 (p_neg hc (Ev.now _))
    have e2 : Ev (fun k => (impl_halfRoot.f k x).bind fun bt101 => if bt101.2 = true then some (bt101.1, (0 : Int)) else some (0, 6)) (0, 6) := Ev.bind h2 (p_neg hc (Ev.now _))
    exact Ev.bind e1 (Ev.bind e2 (p_pos rfl (p_pos rfl (Ev.now _))))
end Go.Proofs.Ytadfobooofkelaa.Pure

-- Laid by wip/xprint.py of this session (the kit's print program, with some contracts given by hand). Not trusted: Lean checks it.
namespace Go.Proofs.Ytadfobooofkelaa.fnExactHalfRoot
open Go.ChangeShapes Go.WideShapes Go.ChangeAt Go.RowKit
open Go.ChangeMaps (open_string shut_string)
set_option linter.unusedVariables false
theorem own : ownKnob Try.prog.godebug = none := by kernel_rfl
set_option maxRecDepth 100000 in
theorem lifted (os : Os) (started : os.Started) (H : Type) (enc : TypeId × Value → H) :
    ReturnsInHanded {} Try.checked os 4 .any (Rows.fnExactHalfRootSpec.pre6 enc Try.prog Try.f4 Rows.fnExactHalfRootRow.domain false) (Rows.fnExactHalfRootSpec.post enc Try.prog Try.f4 false true false false) := by
  refine returnsInHanded_of_change_sized (C := Try.checked) own started (by kernel_rfl) Try.func4
    (ChangeSpec.witness6 (enc := enc) (C := Try.checked) false ⟨#[], #[.int .u16 0], []⟩ 8 (by kernel_rfl) (by kernel_rfl) (by kernel_rfl) (by kernel_rfl)) ?_
  intro W base args ds gs before hval0 hW hcnd hsz0 _
  have hsz : (DataW.weightsEach Try.prog (Try.f4.params.toList ++ Rows.fnExactHalfRootSpec.plain.varTypes Try.prog) (ds ++ gs)).all (· ≤ reachBytes) = true := hsz0
  have hval : ∀ (j : Nat) t v, Try.f4.params[j]? = some t → args[j]? = some v → Value.okWide Try.prog W .any base t v := hval0
  have hW' := hW
  obtain ⟨p, q, hA0, hV, rfl, hfz, hnd⟩ := hW
  have hA : DataW.TrodAll enc Try.prog W 0 (fun _ => true) true Try.f4.params.toList args.toList ds p := hA0
  rw [Try.params4] at hA hval hsz
  obtain ⟨v0, vs0, d0, ds0, p0, q0, hargs, rfl, rfl, h0, r0⟩ := trodAll_cons hA
  obtain ⟨rfl, rfl, rfl⟩ := trodAll_nil r0
  obtain rfl : args = #[v0] := by cases args; simp_all
  obtain ⟨rfl, rfl⟩ := trodVars_none hV
  obtain ⟨a0, rfl, rfl, rfl, w0⟩ := open_int Try.underlying35 (hval 0 35 v0 rfl rfl) h0
  clear hA0 hval0 hsz0 hsz
  refine (X.laws_FnExactHalfRoot.walk Pure.FnExactHalfRoot a0 W w0).mono fun e W' ⟨he, bel⟩ => ?_
  subst he
  exact ⟨_, rfl, _, _, _, [], _, [], hW', trodAll_mk1 (shut_bool Try.underlying4 _), (trodAll_cons_mk (shut_int Try.underlying35 w0) trodAll_mk0), rfl, bel.frame _, fun h => by cases h⟩
theorem over : Rows.fnExactHalfRootRow.holds Try.pinned (OpenSpec.ofChange Rows.fnExactHalfRootSpec) :=
  OpenClaim.holds_of_wide 4 Try.f4 rfl rfl rfl rfl rfl rfl rfl ⟨rfl, rfl, rfl, rfl, rfl⟩ rfl rfl rfl rfl rfl (by kernel_rfl) Try.func4 (by kernel_rfl)
    (of_decide_eq_true (by kernel_rfl)) (by unfold Func.isWrapper; first | (rw [if_pos (by decide +kernel)]; kernel_rfl) | (rw [if_neg (by decide +kernel)]; exact ⟨rfl, rfl⟩))
    (fun os started H enc _ => lifted os started H enc)
theorem proved : Rows.FnExactHalfRootSaid := over
end Go.Proofs.Ytadfobooofkelaa.fnExactHalfRoot
namespace Go.Proofs.Ytadfobooofkelaa
theorem fnExactHalfRoot_holds : Rows.FnExactHalfRootSaid := fnExactHalfRoot.proved
end Go.Proofs.Ytadfobooofkelaa
