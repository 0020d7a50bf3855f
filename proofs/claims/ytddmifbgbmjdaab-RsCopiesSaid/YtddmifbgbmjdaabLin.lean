/- Plain laws of numbers under exclusive or: linear functions. -/
import Derived.WalkKit
set_option linter.unusedVariables false
set_option linter.unusedSimpArgs false
namespace Go.Proofs.Ytddmifbgbmjdaab

theorem xor_mod_two (x y : Nat) : (x ^^^ y) % 2 = (x % 2 + y % 2) % 2 := by
  have h := Nat.testBit_xor (x := x) (y := y) (i := 0)
  simp only [Nat.testBit_zero] at h
  have hx := Nat.mod_two_eq_zero_or_one x
  have hy := Nat.mod_two_eq_zero_or_one y
  have hz := Nat.mod_two_eq_zero_or_one (x ^^^ y)
  rcases hx with hx | hx <;> rcases hy with hy | hy <;> rcases hz with hz | hz <;> simp [hx, hy, hz] at h ⊢
theorem xor_div_two (x y : Nat) : (x ^^^ y) / 2 = (x / 2) ^^^ (y / 2) := by
  apply Nat.eq_of_testBit_eq
  intro i
  simp [Nat.testBit_div_two, Nat.testBit_xor]
theorem xor_cancel (a b : Nat) : a ^^^ (a ^^^ b) = b := by rw [← Nat.xor_assoc, Nat.xor_self, Nat.zero_xor]
theorem eq_of_xor_zero {x y : Nat} (h : x ^^^ y = 0) : x = y := by
  have := xor_cancel x y
  rw [h, Nat.xor_zero] at this
  exact this

/-! ### linear functions are told by their values at the powers of 2 -/
theorem split_top (n x : Nat) (hx : x < 2 ^ (n + 1)) : x = (x % 2 ^ n) ^^^ (if x.testBit n = true then 2 ^ n else 0) := by
  apply Nat.eq_of_testBit_eq
  intro i
  rw [Nat.testBit_xor, Nat.testBit_mod_two_pow]
  by_cases h : i < n
  · have : (if x.testBit n = true then 2 ^ n else 0).testBit i = false := by
      split
      · rw [Nat.testBit_two_pow]; simp; omega
      · simp
    simp [h, this]
  · by_cases e : i = n
    · subst e
      cases hb : x.testBit i <;> simp
    · have hlt : x.testBit i = false := Nat.testBit_lt_two_pow (Nat.lt_of_lt_of_le hx (Nat.pow_le_pow_right (by omega) (by omega)))
      have : (if x.testBit n = true then 2 ^ n else 0).testBit i = false := by
        split
        · rw [Nat.testBit_two_pow]; simp; omega
        · simp
      simp [h, hlt, this]
theorem linear_zero (f : Nat → Nat) (hf : ∀ x y, f (x ^^^ y) = f x ^^^ f y) : f 0 = 0 := by
  have := hf 0 0
  simpa using this
theorem linear_ext (f g : Nat → Nat) (hf : ∀ x y, f (x ^^^ y) = f x ^^^ f y) (hg : ∀ x y, g (x ^^^ y) = g x ^^^ g y) (n : Nat) (h : ∀ i, i < n → f (2 ^ i) = g (2 ^ i)) : ∀ x, x < 2 ^ n → f x = g x := by
  induction n with
  | zero =>
    intro x hx
    have : x = 0 := by omega
    rw [this, linear_zero f hf, linear_zero g hg]
  | succ n ih =>
    intro x hx
    rw [split_top n x hx, hf, hg, ih (fun i hi => h i (by omega)) _ (Nat.mod_lt _ (Nat.two_pow_pos n))]
    congr 1
    split
    · exact h n (by omega)
    · rw [linear_zero f hf, linear_zero g hg]

end Go.Proofs.Ytddmifbgbmjdaab
