/- Texts of this claim, joined: what the claim's last text comes to. They hold without any condition beyond those that each states. -/
import Derived.Laws.BitsLemmas
namespace Go.Proofs.Yteanndgkjoinmaa.Nim
set_option linter.unusedVariables false
def nm : Nat → Nat → Nat → Nat
  | 0, a, b => a * b
  | k + 1, a, b =>
    2 ^ 2 ^ k * (nm k (a / 2 ^ 2 ^ k) (b / 2 ^ 2 ^ k) ^^^ nm k (a / 2 ^ 2 ^ k) (b % 2 ^ 2 ^ k) ^^^ nm k (a % 2 ^ 2 ^ k) (b / 2 ^ 2 ^ k))
      + (nm k (a % 2 ^ 2 ^ k) (b % 2 ^ 2 ^ k) ^^^ nm k (nm k (a / 2 ^ 2 ^ k) (b / 2 ^ 2 ^ k)) (2 ^ 2 ^ k / 2))
theorem nm_zero_left (k : Nat) : ∀ b, nm k 0 b = 0 := by
  induction k with
  | zero => intro b; simp [nm]
  | succ k ih => intro b; simp [nm, ih]
theorem nm_zero_right (k : Nat) : ∀ a, nm k a 0 = 0 := by
  induction k with
  | zero => intro a; simp [nm]
  | succ k ih => intro a; simp [nm, ih, nm_zero_left]
end Go.Proofs.Yteanndgkjoinmaa.Nim
