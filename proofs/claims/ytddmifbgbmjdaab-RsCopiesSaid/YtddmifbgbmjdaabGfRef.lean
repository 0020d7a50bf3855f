/- The reference's product is the product; logarithms. -/
import Derived.Test.YtddmifbgbmjdaabGfMath
set_option linter.unusedVariables false
set_option linter.unusedSimpArgs false
namespace Go.Proofs.Ytddmifbgbmjdaab

/-- The product as polynomials, k places of the second. -/
def longN (a b : Nat) : Nat → Nat
  | 0 => 0
  | k + 1 => if b / 2 ^ k % 2 = 1 then longN a b k ^^^ (a * 2 ^ k) else longN a b k
theorem bit_iff (b k : Nat) : (b / 2 ^ k % 2 = 1) = (b.testBit k = true) := by rw [Nat.testBit_eq_decide_div_mod_eq]; simp
theorem longN_l (a a' b k : Nat) : longN (a ^^^ a') b k = longN a b k ^^^ longN a' b k := by
  induction k with
  | zero => simp [longN]
  | succ k ih =>
    simp only [longN, ih]
    split
    · rw [← Nat.shiftLeft_eq, ← Nat.shiftLeft_eq, ← Nat.shiftLeft_eq, Nat.shiftLeft_xor_distrib]
      ac_rfl
    · rfl
theorem longN_r (a b b' k : Nat) : longN a (b ^^^ b') k = longN a b k ^^^ longN a b' k := by
  induction k with
  | zero => simp [longN]
  | succ k ih =>
    simp only [longN, ih, bit_iff, Nat.testBit_xor]
    generalize a * 2 ^ k = p
    cases b.testBit k <;> cases b'.testBit k <;> simp
    · ac_rfl
    · ac_rfl
    · rw [show ∀ x y : Nat, (x ^^^ p) ^^^ (y ^^^ p) = x ^^^ y ^^^ (p ^^^ p) from fun x y => by ac_rfl, Nat.xor_self, Nat.xor_zero]
theorem longN_lt (a b k : Nat) (ha : a < 256) (hk : k ≤ 8) : longN a b k < 65536 := by
  induction k with
  | zero => simp [longN]
  | succ k ih =>
    unfold longN
    have := ih (by omega)
    split
    · refine Nat.xor_lt_two_pow (n := 16) this ?_
      have : a * 2 ^ k ≤ a * 2 ^ 7 := Nat.mul_le_mul_left _ (Nat.pow_le_pow_right (by omega) (by omega))
      omega
    · exact this
/-- The rest, j places of it. -/
def rdN (r : Nat) : Nat → Nat
  | 0 => r
  | j + 1 => if rdN r j / 2 ^ (14 - j) % 2 = 1 then rdN r j ^^^ (285 * 2 ^ (14 - j - 8)) else rdN r j
theorem rdN_xor (x y j : Nat) : rdN (x ^^^ y) j = rdN x j ^^^ rdN y j := by
  induction j with
  | zero => rfl
  | succ j ih =>
    simp only [rdN, ih, bit_iff, Nat.testBit_xor]
    generalize 285 * 2 ^ (14 - j - 8) = p
    cases (rdN x j).testBit (14 - j) <;> cases (rdN y j).testBit (14 - j) <;> simp
    · ac_rfl
    · ac_rfl
    · rw [show ∀ x y : Nat, (x ^^^ p) ^^^ (y ^^^ p) = x ^^^ y ^^^ (p ^^^ p) from fun x y => by ac_rfl, Nat.xor_self, Nat.xor_zero]
theorem rdN_lt (r j : Nat) (hr : r < 65536) : rdN r j < 65536 := by
  induction j with
  | zero => exact hr
  | succ j ih =>
    unfold rdN
    split
    · refine Nat.xor_lt_two_pow (n := 16) ih ?_
      have : 285 * 2 ^ (14 - j - 8) ≤ 285 * 2 ^ 6 := Nat.mul_le_mul_left _ (Nat.pow_le_pow_right (by omega) (by omega))
      omega
    · exact ih
theorem ref_mul {a b : Nat} (ha : a < 256) (hb : b < 256) : rdN (longN a b 8) 7 % 256 = mulN a b := by
  rw [mul_eq ha]
  exact bilinear_ext (fun a b => rdN (longN a b 8) 7 % 2 ^ 8) mulL
    (fun x y b => by simp only [longN_l, rdN_xor, Nat.xor_mod_two_pow]) (fun a x y => by simp only [longN_r, rdN_xor, Nat.xor_mod_two_pow]) mulL_l mulL_r 8 (by decide +kernel) a b ha hb

/-! ### logarithms -/
/-- The powers of 2, from the first on. -/
def expN : Nat → Nat
  | 0 => 1
  | n + 1 => xtN (expN n)
theorem xt_mul (a : Nat) (h : a < 256) : xtN a = mulN a 2 := by
  have : ∀ a, a < 256 → xtN a = mulN a 2 := by decide +kernel
  exact this a h
theorem expN_eq (n : Nat) : expN n = (gpow 2 n).toNat := by
  induction n with
  | zero => rfl
  | succ n ih => rw [expN, ih, gpow, gmul_toNat, xt_mul _ (gpow 2 n).toNat_lt]; rfl
theorem expN_lt (n : Nat) : expN n < 256 := by rw [expN_eq]; exact (gpow 2 n).toNat_lt
/-- The powers of 2, as a list. -/
def exps : List Nat := (List.range 255).map expN
def expsFrom : Nat → Nat → List Nat
  | 0, _ => []
  | n + 1, x => x :: expsFrom n (xtN x)
theorem expsFrom_get (n : Nat) : ∀ m i, i < n → (expsFrom n (expN m))[i]? = some (expN (m + i)) := by
  induction n with
  | zero => intro m i h; omega
  | succ n ih =>
    intro m i h
    cases i with
    | zero => rfl
    | succ i =>
      show (expsFrom n (expN (m + 1)))[i]? = _
      rw [ih (m + 1) i (by omega), show m + 1 + i = m + (i + 1) from by omega]
theorem expsFrom_length (n : Nat) : ∀ x, (expsFrom n x).length = n := by
  induction n with
  | zero => intro x; rfl
  | succ n ih => intro x; simp [expsFrom, ih]
/-- A check that a list holds each number but 0 once: by counting on marks. -/
theorem exps_nodup : (expsFrom 255 1).Nodup := by decide +kernel
theorem exps_all : ∀ a, a < 256 → a ≠ 0 → a ∈ expsFrom 255 1 := by decide +kernel
theorem exp_inj {i j : Nat} (hi : i < 255) (hj : j < 255) (h : expN i = expN j) : i = j := by
  have hn := exps_nodup
  have e1 := expsFrom_get 255 0 i hi
  have e2 := expsFrom_get 255 0 j hj
  rw [Nat.zero_add] at e1 e2
  rw [h, ← e2] at e1
  exact (List.getElem?_inj (by rw [expsFrom_length]; exact hi) hn).1 e1
theorem exp_some (a : UInt8) (h : a ≠ 0) : ∃ n, n < 255 ∧ expN n = a.toNat := by
  have := exps_all a.toNat a.toNat_lt (fun e => h (u8_ext e))
  obtain ⟨i, hi, he⟩ := List.getElem_of_mem this
  rw [expsFrom_length] at hi
  have e1 := expsFrom_get 255 0 i hi
  rw [Nat.zero_add] at e1
  have : (expsFrom 255 1)[i]? = some a.toNat := by rw [List.getElem?_eq_getElem (by rw [expsFrom_length]; exact hi), he]
  have e3 : (expsFrom 255 (expN 0))[i]? = some a.toNat := this
  rw [e1] at e3
  injection e3 with e3
  exact ⟨i, hi, e3⟩
theorem exp_ne (n : Nat) : expN n ≠ 0 := by
  intro h
  have h1 : gpow 2 n = 0 := u8_ext (by rw [← expN_eq]; exact h)
  have h2 : gpow 2 (n % 255) = 0 := by rw [gpow2_mod]; exact h1
  have : ∀ m, m < 255 → powNat 2 m ≠ 0 := by
    intro m hm h0
    have h3 : gmul (gpow 2 m) (gpow 2 (255 - m)) = 1 := by rw [← gpow_add, show m + (255 - m) = 255 from by omega, gpow2_255]
    have h4 : gpow 2 m = 0 := u8_ext (by rw [gpow_toNat]; exact h0)
    rw [h4, zero_gmul] at h3
    exact absurd h3 (by decide)
  exact this (n % 255) (Nat.mod_lt _ (by omega)) (by rw [← show (gpow 2 (n % 255)).toNat = powNat 2 (n % 255) from gpow_toNat 2 _, h2]; rfl)
open Classical in
/-- The logarithm; 0 for 0. -/
noncomputable def glog (a : UInt8) : Nat := if h : ∃ n, n < 255 ∧ expN n = a.toNat then Classical.choose h else 0
theorem glog_lt (a : UInt8) : glog a < 255 := by
  unfold glog
  split
  · rename_i h; exact (Classical.choose_spec h).1
  · omega
theorem glog_exp {a : UInt8} (h : a ≠ 0) : gpow 2 (glog a) = a := by
  have hx := exp_some a h
  refine u8_ext ?_
  rw [← expN_eq]
  unfold glog
  rw [dif_pos hx]
  exact (Classical.choose_spec hx).2
theorem glog_of {a : UInt8} {n : Nat} (hn : n < 255) (h : expN n = a.toNat) : glog a = n := by
  have ha : a ≠ 0 := fun e => exp_ne n (by rw [h, e]; rfl)
  refine exp_inj (glog_lt a) hn ?_
  rw [h, expN_eq, glog_exp ha]
theorem gpow_ne (n : Nat) : gpow 2 n ≠ 0 := fun e => exp_ne n (by rw [expN_eq, e]; rfl)
theorem glog_mul {a b : UInt8} (ha : a ≠ 0) (hb : b ≠ 0) : glog (gmul a b) = (glog a + glog b) % 255 := by
  refine glog_of (Nat.mod_lt _ (by omega)) ?_
  rw [expN_eq, gpow2_mod, gpow_add, glog_exp ha, glog_exp hb]
theorem gmul_ne {a b : UInt8} (ha : a ≠ 0) (hb : b ≠ 0) : gmul a b ≠ 0 := fun e => by
  rcases gmul_eq_zero e with h | h
  · exact ha h
  · exact hb h
theorem ginv_pow (n : Nat) (hn : n ≤ 255) : ginv (gpow 2 n) = gpow 2 (255 - n) := by
  refine gmul_cancel (gpow_ne n) ?_
  rw [gmul_inv _ (gpow_ne n), ← gpow_add, show n + (255 - n) = 255 from by omega, gpow2_255]
end Go.Proofs.Ytddmifbgbmjdaab
