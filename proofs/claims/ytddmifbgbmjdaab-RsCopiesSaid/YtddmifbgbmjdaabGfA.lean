/- The walks of gf's sum and product; a polynomial's value. -/
import Derived.Test.YtddmifbgbmjdaabGf
import Derived.Test.YtddmifbgbmjdaabGfRef
set_option linter.unusedVariables false
set_option linter.unusedSimpArgs false
namespace Go.Proofs.Ytddmifbgbmjdaab
open Go.RowKit

theorem times8 (a b : UInt8) (w : World) :
    Calls Try.prog 63 #[.int .u8 (a.toNat : Int), .int .u8 (b.toNat : Int)] w fun e w' => e = .returned (.int .u8 ((gmul a b).toNat : Int)) ∧ w = w' := by
  rw [gmul_toNat]
  exact times_calls _ _ a.toNat_lt b.toNat_lt w
set_option maxHeartbeats 400000 in
theorem mul8 (a b : UInt8) (w : World) :
    Calls Try.prog 50 #[.int .u8 (a.toNat : Int), .int .u8 (b.toNat : Int)] w fun e w' => e = .returned (.int .u8 ((gmul a b).toNat : Int)) ∧ w = w' := by
  go_enter Try.func50, Try.ntmps50
  go_wp2_with fail
  refine (times8 a b _).mono ?_
  rintro e w' ⟨rfl, rfl⟩
  go_wp2_with fail
  go_ret
  exact ⟨rfl, rfl⟩
set_option maxHeartbeats 400000 in
theorem add8 (a b : UInt8) (w : World) :
    Calls Try.prog 57 #[.int .u8 (a.toNat : Int), .int .u8 (b.toNat : Int)] w fun e w' => e = .returned (.int .u8 ((a ^^^ b).toNat : Int)) ∧ w = w' := by
  have hx : bits .xor .u8 (a.toNat : Int) (b.toNat : Int) = ((a ^^^ b).toNat : Int) := by rw [UInt8.toNat_xor]; exact u8_xor_nat _ _ a.toNat_lt b.toNat_lt
  have Hx := Lib.hid hx
  clear hx
  go_enter Try.func57, Try.ntmps57
  go_wp2_with fail
  go_ret
  exact ⟨by rw [← Hx.out]; rfl, rfl⟩
theorem u8_zero (a : UInt8) : ((a.toNat : Int) == 0) = decide (a = 0) := by
  by_cases h : a = 0
  · subst h; rfl
  · rw [decide_eq_false h, beq_eq_false_iff_ne]
    intro e
    exact h (u8_ext (by simpa using e))
/-- The value of a polynomial at a place: Horner's rule. -/
def geval (x : UInt8) : List UInt8 → UInt8
  | [] => 0
  | c :: l => gmul (geval x l) x ^^^ c
end Go.Proofs.Ytddmifbgbmjdaab
