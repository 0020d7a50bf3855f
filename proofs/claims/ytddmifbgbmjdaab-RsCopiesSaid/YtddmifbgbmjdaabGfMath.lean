/- The field with 256 elements, as plain functions. -/
import Derived.Test.YtddmifbgbmjdaabLin
set_option linter.unusedVariables false
set_option linter.unusedSimpArgs false
namespace Go.Proofs.Ytddmifbgbmjdaab

/-- Times x. -/
def xtN (a : Nat) : Nat := if a * 2 > 255 then (a * 2) ^^^ 285 else a * 2
theorem xtN_lt {a : Nat} (h : a < 256) : xtN a < 256 := by
  have : ∀ a, a < 256 → xtN a < 256 := by decide +kernel
  exact this a h
/-- The product bit by bit, n rounds. -/
def tmN : Nat → Nat → Nat → Nat → Nat
  | 0, o, _, _ => o
  | n + 1, o, e, f => tmN n (if f % 2 = 1 then o ^^^ e else o) (xtN e) (f / 2)
def mulN (a b : Nat) : Nat := tmN 8 0 a b
theorem tmN_lt (n : Nat) : ∀ o e f, o < 256 → e < 256 → tmN n o e f < 256 := by
  induction n with
  | zero => intro o e f h _; exact h
  | succ n ih =>
    intro o e f ho he
    refine ih _ _ _ ?_ (xtN_lt he)
    split
    · exact Nat.xor_lt_two_pow (n := 8) ho he
    · exact ho
theorem mulN_lt {a b : Nat} (h : a < 256) : mulN a b < 256 := tmN_lt 8 0 a b (by omega) h
theorem tmN_zero (n : Nat) : ∀ o e, tmN n o e 0 = o := by
  induction n with
  | zero => intro o e; rfl
  | succ n ih => intro o e; exact ih _ _
/-- A form of xtN that is linear on all numbers. -/
def xtL (a : Nat) : Nat := (a <<< 1) ^^^ (if a.testBit 7 then 285 else 0)
theorem xtL_xor (x y : Nat) : xtL (x ^^^ y) = xtL x ^^^ xtL y := by
  unfold xtL
  rw [Nat.shiftLeft_xor_distrib, Nat.testBit_xor]
  cases x.testBit 7 <;> cases y.testBit 7 <;> simp
  · ac_rfl
  · ac_rfl
  · rw [show (x <<< 1 ^^^ 285) ^^^ (y <<< 1 ^^^ 285) = x <<< 1 ^^^ y <<< 1 ^^^ (285 ^^^ 285) from by ac_rfl, Nat.xor_self, Nat.xor_zero]
theorem xt_eq {a : Nat} (h : a < 256) : xtN a = xtL a := by
  have : ∀ a, a < 256 → xtN a = xtL a := by decide +kernel
  exact this a h
def tmL : Nat → Nat → Nat → Nat → Nat
  | 0, o, _, _ => o
  | n + 1, o, e, f => tmL n (if f % 2 = 1 then o ^^^ e else o) (xtL e) (f / 2)
theorem tm_eq (n : Nat) : ∀ o e f, e < 256 → tmN n o e f = tmL n o e f := by
  induction n with
  | zero => intro o e f _; rfl
  | succ n ih =>
    intro o e f h
    rw [tmN, tmL, ih _ _ _ (xtN_lt h), xt_eq h]
theorem tmL_out (n : Nat) : ∀ o e f, tmL n o e f = o ^^^ tmL n 0 e f := by
  induction n with
  | zero => intro o e f; simp [tmL]
  | succ n ih =>
    intro o e f
    rw [tmL, tmL, ih, ih (if f % 2 = 1 then 0 ^^^ e else 0)]
    split <;> simp [Nat.xor_assoc]
theorem tmL_e (n : Nat) : ∀ e e' f, tmL n 0 (e ^^^ e') f = tmL n 0 e f ^^^ tmL n 0 e' f := by
  induction n with
  | zero => intro e e' f; simp [tmL]
  | succ n ih =>
    intro e e' f
    rw [tmL, tmL, tmL, tmL_out, tmL_out n (if f % 2 = 1 then 0 ^^^ e else 0), tmL_out n (if f % 2 = 1 then 0 ^^^ e' else 0), xtL_xor, ih]
    split <;> simp
    ac_rfl
theorem tmL_f (n : Nat) : ∀ e f f', tmL n 0 e (f ^^^ f') = tmL n 0 e f ^^^ tmL n 0 e f' := by
  induction n with
  | zero => intro e f f'; simp [tmL]
  | succ n ih =>
    intro e f f'
    rw [tmL, tmL, tmL, tmL_out, tmL_out n (if f % 2 = 1 then 0 ^^^ e else 0), tmL_out n (if f' % 2 = 1 then 0 ^^^ e else 0), xor_div_two, ih, xor_mod_two]
    rcases Nat.mod_two_eq_zero_or_one f with h | h <;> rcases Nat.mod_two_eq_zero_or_one f' with h' | h' <;> simp [h, h']
    · ac_rfl
    · ac_rfl
    · rw [show ∀ a b c : Nat, (a ^^^ b) ^^^ (a ^^^ c) = (a ^^^ a) ^^^ (b ^^^ c) from fun a b c => by ac_rfl, Nat.xor_self, Nat.zero_xor]
def mulL (a b : Nat) : Nat := tmL 8 0 a b
theorem mul_eq {a : Nat} (h : a < 256) (b : Nat) : mulN a b = mulL a b := tm_eq 8 0 a b h
theorem mulL_l (a a' b : Nat) : mulL (a ^^^ a') b = mulL a b ^^^ mulL a' b := tmL_e 8 a a' b
theorem mulL_r (a b b' : Nat) : mulL a (b ^^^ b') = mulL a b ^^^ mulL a b' := tmL_f 8 a b b'
/-- Two bilinear functions that agree at the powers of 2 agree. -/
theorem bilinear_ext (f g : Nat → Nat → Nat) (hfl : ∀ x y b, f (x ^^^ y) b = f x b ^^^ f y b) (hfr : ∀ a x y, f a (x ^^^ y) = f a x ^^^ f a y)
    (hgl : ∀ x y b, g (x ^^^ y) b = g x b ^^^ g y b) (hgr : ∀ a x y, g a (x ^^^ y) = g a x ^^^ g a y) (n : Nat) (h : ∀ i, i < n → ∀ j, j < n → f (2 ^ i) (2 ^ j) = g (2 ^ i) (2 ^ j)) :
    ∀ a b, a < 2 ^ n → b < 2 ^ n → f a b = g a b := by
  intro a b ha hb
  refine linear_ext (fun a => f a b) (fun a => g a b) (fun x y => hfl x y b) (fun x y => hgl x y b) n (fun i hi => ?_) a ha
  exact linear_ext (fun b => f (2 ^ i) b) (fun b => g (2 ^ i) b) (hfr _) (hgr _) n (fun j hj => h i hi j hj) b hb
theorem mulL_comm {a b : Nat} (ha : a < 256) (hb : b < 256) : mulL a b = mulL b a :=
  bilinear_ext mulL (fun a b => mulL b a) mulL_l mulL_r (fun x y b => mulL_r b x y) (fun a x y => mulL_l x y a) 8 (by decide +kernel) a b ha hb
theorem mulL_lt {a : Nat} (ha : a < 256) (b : Nat) : mulL a b < 256 := by rw [← mul_eq ha]; exact mulN_lt ha
theorem mulL_assoc {a b c : Nat} (ha : a < 256) (hb : b < 256) (hc : c < 256) : mulL (mulL a b) c = mulL a (mulL b c) := by
  refine linear_ext (fun c => mulL (mulL a b) c) (fun c => mulL a (mulL b c)) (fun x y => mulL_r _ _ _) (fun x y => by simp only [mulL_r]) 8 (fun k hk => ?_) c hc
  exact bilinear_ext (fun a b => mulL (mulL a b) (2 ^ k)) (fun a b => mulL a (mulL b (2 ^ k))) (fun x y b => by simp only [mulL_l]) (fun a x y => by simp only [mulL_l, mulL_r]) (fun x y b => by simp only [mulL_l]) (fun a x y => by simp only [mulL_l, mulL_r]) 8
    (by have : ∀ k, k < 8 → ∀ i, i < 8 → ∀ j, j < 8 → mulL (mulL (2 ^ i) (2 ^ j)) (2 ^ k) = mulL (2 ^ i) (mulL (2 ^ j) (2 ^ k)) := by decide +kernel
        exact this k hk) a b ha hb

/-! ### on bytes -/
def gmul (a b : UInt8) : UInt8 := UInt8.ofNat (mulN a.toNat b.toNat)
theorem gmul_toNat (a b : UInt8) : (gmul a b).toNat = mulN a.toNat b.toNat := by
  have := mulN_lt (a := a.toNat) (b := b.toNat) a.toNat_lt
  unfold gmul
  rw [UInt8.toNat_ofNat']
  omega
theorem gmul_toL (a b : UInt8) : (gmul a b).toNat = mulL a.toNat b.toNat := by rw [gmul_toNat, mul_eq a.toNat_lt]
theorem u8_ext {a b : UInt8} (h : a.toNat = b.toNat) : a = b := UInt8.toNat_inj.1 h
theorem gmul_comm (a b : UInt8) : gmul a b = gmul b a := u8_ext (by rw [gmul_toL, gmul_toL, mulL_comm a.toNat_lt b.toNat_lt])
theorem gmul_assoc (a b c : UInt8) : gmul (gmul a b) c = gmul a (gmul b c) := u8_ext (by simp only [gmul_toL]; exact mulL_assoc a.toNat_lt b.toNat_lt c.toNat_lt)
theorem gmul_xor (a b c : UInt8) : gmul a (b ^^^ c) = gmul a b ^^^ gmul a c := u8_ext (by simp only [gmul_toL, UInt8.toNat_xor]; exact mulL_r _ _ _)
theorem xor_gmul (a b c : UInt8) : gmul (a ^^^ b) c = gmul a c ^^^ gmul b c := u8_ext (by simp only [gmul_toL, UInt8.toNat_xor]; exact mulL_l _ _ _)
theorem gmul_zero (a : UInt8) : gmul a 0 = 0 := u8_ext (by rw [gmul_toNat]; exact tmN_zero 8 0 _)
theorem zero_gmul (a : UInt8) : gmul 0 a = 0 := by rw [gmul_comm, gmul_zero]
theorem one_gmul (a : UInt8) : gmul 1 a = a := u8_ext (by
  rw [gmul_toL]
  exact linear_ext (fun b => mulL 1 b) (fun b => b) (fun x y => mulL_r _ _ _) (fun _ _ => rfl) 8 (by decide +kernel) a.toNat a.toNat_lt)
theorem gmul_one (a : UInt8) : gmul a 1 = a := by rw [gmul_comm, one_gmul]
/-- A power. -/
def gpow (a : UInt8) : Nat → UInt8
  | 0 => 1
  | n + 1 => gmul (gpow a n) a
theorem gpow_add (a : UInt8) (m n : Nat) : gpow a (m + n) = gmul (gpow a m) (gpow a n) := by
  induction n with
  | zero => exact (gmul_one _).symm
  | succ n ih => rw [← Nat.add_assoc, gpow, ih, gpow, gmul_assoc]
theorem gpow_mul (a : UInt8) (m n : Nat) : gpow a (m * n) = gpow (gpow a m) n := by
  induction n with
  | zero => rfl
  | succ n ih => rw [Nat.mul_succ, gpow_add, ih, gpow]
theorem gpow_one (a : UInt8) : gpow a 1 = a := one_gmul a
theorem gmul_gpow (a b : UInt8) (n : Nat) : gpow (gmul a b) n = gmul (gpow a n) (gpow b n) := by
  induction n with
  | zero => exact (gmul_one _).symm
  | succ n ih =>
    rw [gpow, gpow, gpow, ih, gmul_assoc, gmul_assoc, ← gmul_assoc (gpow b n) a b, gmul_comm (gpow b n) a, gmul_assoc a (gpow b n) b]
def ginv (a : UInt8) : UInt8 := gpow a 254
def powNat (a : Nat) : Nat → Nat
  | 0 => 1
  | n + 1 => mulN (powNat a n) a
theorem gpow_toNat (a : UInt8) (n : Nat) : (gpow a n).toNat = powNat a.toNat n := by
  induction n with
  | zero => rfl
  | succ n ih => rw [gpow, gmul_toNat, ih, powNat]
theorem inv_all : ∀ a, a < 256 → a ≠ 0 → mulN a (mulN (mulN (powNat a 127) (powNat a 127)) 1) = 1 := by decide +kernel
theorem gmul_inv (a : UInt8) (h : a ≠ 0) : gmul a (ginv a) = 1 := by
  have h0 : a.toNat ≠ 0 := fun e => h (u8_ext e)
  have := inv_all a.toNat a.toNat_lt h0
  unfold ginv
  rw [show 254 = 127 + 127 from rfl, gpow_add, ← gmul_one (gmul (gpow a 127) (gpow a 127))]
  refine u8_ext ?_
  simp only [gmul_toNat, gpow_toNat]
  exact this
theorem ginv_zero : ginv 0 = 0 := by decide +kernel
theorem gmul_eq_zero {a b : UInt8} (h : gmul a b = 0) : a = 0 ∨ b = 0 := by
  by_cases ha : a = 0
  · exact .inl ha
  · refine .inr ?_
    have := congrArg (gmul (ginv a)) h
    rwa [gmul_zero, ← gmul_assoc, gmul_comm (ginv a) a, gmul_inv a ha, one_gmul] at this
theorem gmul_cancel {a b c : UInt8} (ha : a ≠ 0) (h : gmul a b = gmul a c) : b = c := by
  have := congrArg (gmul (ginv a)) h
  rwa [← gmul_assoc, ← gmul_assoc, gmul_comm (ginv a) a, gmul_inv a ha, one_gmul, one_gmul] at this

/-! ### powers of 2 -/
theorem pow255 : powNat 2 255 = 1 := by decide +kernel
theorem gpow2_255 : gpow 2 255 = 1 := u8_ext (by rw [gpow_toNat]; exact pow255)
theorem gpow_unit (n : Nat) : gpow 1 n = 1 := by
  induction n with
  | zero => rfl
  | succ n ih => rw [gpow, ih, gmul_one]
theorem gpow2_mod (n : Nat) : gpow 2 (n % 255) = gpow 2 n := by
  have h : gpow 2 n = gpow 2 (255 * (n / 255) + n % 255) := by rw [Nat.div_add_mod]
  rw [h, gpow_add, gpow_mul, gpow2_255, gpow_unit, one_gmul]
end Go.Proofs.Ytddmifbgbmjdaab
