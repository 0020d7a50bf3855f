/- The plain law of the checksum: its step is linear and loses nothing. -/
import Derived.Test.YtddmifbgbmjdaaaBase
set_option linter.unusedVariables false
set_option linter.unusedSimpArgs false
namespace Go.Proofs.Ytddmifbgbmjdaaa

theorem xor_mod_two (x y : Nat) : (x ^^^ y) % 2 = (x % 2 + y % 2) % 2 := by
  have h := Nat.testBit_xor (x := x) (y := y) (i := 0)
  simp only [Nat.testBit_zero] at h
  have hx := Nat.mod_two_eq_zero_or_one x
  have hy := Nat.mod_two_eq_zero_or_one y
  have hz := Nat.mod_two_eq_zero_or_one (x ^^^ y)
  rcases hx with hx | hx <;> rcases hy with hy | hy <;> rcases hz with hz | hz <;> simp [hx, hy, hz] at h ⊢
theorem xor_div_two (x y : Nat) : (x ^^^ y) / 2 = (x / 2) ^^^ (y / 2) := by
  apply Nat.eq_of_testBit_eq
  intro i
  simp [Nat.testBit_div_two, Nat.testBit_xor]
theorem stepN_xor (x y : Nat) : stepN (x ^^^ y) = stepN x ^^^ stepN y := by
  unfold stepN
  rw [xor_mod_two, xor_div_two]
  rcases Nat.mod_two_eq_zero_or_one x with hx | hx <;> rcases Nat.mod_two_eq_zero_or_one y with hy | hy <;> simp only [hx, hy] <;> simp
  · rw [Nat.xor_assoc]
  · ac_rfl
  · have : ∀ a b k : Nat, (a ^^^ k) ^^^ (b ^^^ k) = a ^^^ b := fun a b k => by
      rw [show (a ^^^ k) ^^^ (b ^^^ k) = a ^^^ b ^^^ (k ^^^ k) from by ac_rfl, Nat.xor_self, Nat.xor_zero]
    rw [this]
theorem stepN_zero : stepN 0 = 0 := rfl
theorem iter_xor (n x y : Nat) : iter stepN n (x ^^^ y) = iter stepN n x ^^^ iter stepN n y := by
  induction n generalizing x y with
  | zero => rfl
  | succ n ih => simp only [iter, stepN_xor, ih]
theorem iter_zero (n : Nat) : iter stepN n 0 = 0 := by
  induction n with
  | zero => rfl
  | succ n ih => exact ih
theorem xor_cancel (a b : Nat) : a ^^^ (a ^^^ b) = b := by rw [← Nat.xor_assoc, Nat.xor_self, Nat.zero_xor]
theorem eq_of_xor_zero {x y : Nat} (h : x ^^^ y = 0) : x = y := by
  have := xor_cancel x y
  rw [h, Nat.xor_zero] at this
  exact this
theorem stepN_eq_zero {x : Nat} (hx : x < 4294967296) (h : stepN x = 0) : x = 0 := by
  unfold stepN at h
  split at h
  · have : x / 2 = 3988292384 := eq_of_xor_zero h
    omega
  · omega
theorem iter_eq_zero (n : Nat) {x : Nat} (hx : x < 4294967296) (h : iter stepN n x = 0) : x = 0 := by
  induction n generalizing x with
  | zero => exact h
  | succ n ih => exact stepN_eq_zero hx (ih (stepN_lt hx) h)
theorem byteN_xor (c d : Nat) (b : UInt8) : byteN (c ^^^ d) b = byteN c b ^^^ iter stepN 8 d := by
  unfold byteN
  rw [show (c ^^^ d) ^^^ b.toNat = (c ^^^ b.toNat) ^^^ d from by ac_rfl, iter_xor]
theorem runN_xor (l : List UInt8) (c d : Nat) : runN (c ^^^ d) l = runN c l ^^^ iter stepN (l.length * 8) d := by
  induction l generalizing c d with
  | nil => rfl
  | cons b l ih =>
    show runN (byteN (c ^^^ d) b) l = runN (byteN c b) l ^^^ _
    rw [byteN_xor, ih, ← iter_add, List.length_cons, show 8 + l.length * 8 = (l.length + 1) * 8 from by omega]
theorem runN_append (c : Nat) (a b : List UInt8) : runN c (a ++ b) = runN (runN c a) b := by simp [runN]
/-- The checksum of two texts, one behind the other. -/
theorem sum_join (a b : List UInt8) : iter stepN (b.length * 8) (sumN a) ^^^ sumN b = sumN (a ++ b) := by
  unfold sumN
  rw [runN_append, iter_xor]
  generalize runN 4294967295 a = c
  have h := runN_xor b 4294967295 (4294967295 ^^^ c)
  rw [xor_cancel, iter_xor] at h
  rw [h]
  ac_rfl

theorem xor_left_inj (k x y : Nat) : (k ^^^ x = k ^^^ y) ↔ x = y := ⟨fun h => by rw [← xor_cancel k x, h, xor_cancel], fun h => by rw [h]⟩
/-- A text behind another one: alike sums of the first parts are alike sums of the whole, unlike ones unlike. -/
theorem sum_zero (a b c : List UInt8) : sumN (a ++ c) = sumN (b ++ c) ↔ sumN a = sumN b := by
  unfold sumN
  rw [xor_left_inj, xor_left_inj, runN_append, runN_append]
  have ha := runN_lt (c := 4294967295) a (by omega)
  have hb := runN_lt (c := 4294967295) b (by omega)
  generalize runN 4294967295 a = x at *
  generalize runN 4294967295 b = y at *
  constructor
  · intro h
    have h1 := runN_xor c x (x ^^^ y)
    rw [xor_cancel, ← h] at h1
    have h2 : iter stepN (c.length * 8) (x ^^^ y) = 0 := by
      have := congrArg (runN x c ^^^ ·) h1
      simp only [Nat.xor_self, xor_cancel] at this
      exact this.symm
    exact eq_of_xor_zero (iter_eq_zero _ (Nat.xor_lt_two_pow (n := 32) (by omega) (by omega)) h2)
  · rintro rfl; rfl

/-! ### bits that are turned -/
theorem byteN_xor2 (c d : Nat) (x t : UInt8) : byteN (c ^^^ d) (x ^^^ t) = byteN c x ^^^ byteN d t := by
  unfold byteN
  rw [← iter_xor, UInt8.toNat_xor]
  congr 1
  ac_rfl
theorem stepN_two (y : Nat) : stepN (2 * y) = y := by unfold stepN; rw [if_neg (by omega)]; omega
theorem iter8_shift (x : Nat) : iter stepN 8 (256 * x) = x := by
  rw [show 256 * x = 2 * (2 * (2 * (2 * (2 * (2 * (2 * (2 * x))))))) from by omega]
  simp only [iter, stepN_two]
theorem run4 (t0 t1 t2 t3 : UInt8) : runN 0 [t0, t1, t2, t3] = iter stepN 32 (t0.toNat ^^^ 256 * (t1.toNat ^^^ 256 * (t2.toNat ^^^ 256 * t3.toNat))) := by
  rw [show 32 = 8 + (8 + (8 + 8)) from rfl, iter_add, iter_add, iter_add, iter_xor, iter8_shift, ← Nat.xor_assoc, iter_xor 8 _ (256 * _), iter8_shift, ← Nat.xor_assoc, iter_xor 8 _ (256 * _), iter8_shift]
  simp [runN, byteN]
theorem run4_ne (t0 t1 t2 t3 : UInt8) (h : runN 0 [t0, t1, t2, t3] = 0) : t0.toNat = 0 ∧ t1.toNat = 0 ∧ t2.toNat = 0 ∧ t3.toNat = 0 := by
  rw [run4] at h
  have b0 := t0.toNat_lt; have b1 := t1.toNat_lt; have b2 := t2.toNat_lt; have b3 := t3.toNat_lt
  have l2 : t2.toNat ^^^ 256 * t3.toNat < 65536 := Nat.xor_lt_two_pow (n := 16) (by omega) (by omega)
  have l1 : t1.toNat ^^^ 256 * (t2.toNat ^^^ 256 * t3.toNat) < 16777216 := Nat.xor_lt_two_pow (n := 24) (by omega) (by omega)
  have h0 := eq_of_xor_zero (iter_eq_zero 32 (Nat.xor_lt_two_pow (n := 32) (by omega) (by omega)) h)
  have h1 := eq_of_xor_zero (show t1.toNat ^^^ 256 * (t2.toNat ^^^ 256 * t3.toNat) = 0 from by omega)
  have h2 := eq_of_xor_zero (show t2.toNat ^^^ 256 * t3.toNat = 0 from by omega)
  omega
/-- The turning of four bytes, one by one: what the loop has done behind n rounds. -/
def turned (t i : Nat) (l : List UInt8) : Nat → List UInt8
  | 0 => l
  | n + 1 => (turned t i l n).set (i + n) ((turned t i l n).getD (i + n) 0 ^^^ UInt8.ofNat (t / 256 ^ n))
theorem turned_length (t i : Nat) (l : List UInt8) (n : Nat) : (turned t i l n).length = l.length := by
  induction n with
  | zero => rfl
  | succ n ih => simp [turned, ih]
theorem turned_four (t : Nat) (p s : List UInt8) (x0 x1 x2 x3 : UInt8) :
    turned t p.length (p ++ x0 :: x1 :: x2 :: x3 :: s) 4 = p ++ (x0 ^^^ UInt8.ofNat t) :: (x1 ^^^ UInt8.ofNat (t / 256)) :: (x2 ^^^ UInt8.ofNat (t / 65536)) :: (x3 ^^^ UInt8.ofNat (t / 16777216)) :: s := by
  simp [turned, List.set_append, List.getD_eq_getElem?_getD, List.getElem?_append]
theorem split_four (l : List UInt8) (i : Nat) (h : i + 4 ≤ l.length) : ∃ p x0 x1 x2 x3 s, l = p ++ x0 :: x1 :: x2 :: x3 :: s ∧ p.length = i := by
  refine ⟨l.take i, l[i], l[i + 1], l[i + 2], l[i + 3], l.drop (i + 4), ?_, by simp; omega⟩
  rw [← List.drop_eq_getElem_cons, ← List.drop_eq_getElem_cons, ← List.drop_eq_getElem_cons, ← List.drop_eq_getElem_cons, List.take_append_drop]
theorem run_four (d : Nat) (y0 y1 y2 y3 : UInt8) (s : List UInt8) : runN d (y0 :: y1 :: y2 :: y3 :: s) = runN (runN d [y0, y1, y2, y3]) s := by simp only [runN, List.foldl]
theorem run_split (c : Nat) (x0 x1 x2 x3 t0 t1 t2 t3 : UInt8) : runN c [x0 ^^^ t0, x1 ^^^ t1, x2 ^^^ t2, x3 ^^^ t3] = runN c [x0, x1, x2, x3] ^^^ runN 0 [t0, t1, t2, t3] := by
  have e : byteN c (x0 ^^^ t0) = byteN c x0 ^^^ byteN 0 t0 := by have := byteN_xor2 c 0 x0 t0; rwa [Nat.xor_zero] at this
  simp only [runN, List.foldl, e, byteN_xor2]
theorem sum_turned (c : Nat) (p s : List UInt8) (x0 x1 x2 x3 t0 t1 t2 t3 : UInt8)
    (he : runN c (p ++ (x0 ^^^ t0) :: (x1 ^^^ t1) :: (x2 ^^^ t2) :: (x3 ^^^ t3) :: s) = runN c (p ++ x0 :: x1 :: x2 :: x3 :: s)) : t0.toNat = 0 ∧ t1.toNat = 0 ∧ t2.toNat = 0 ∧ t3.toNat = 0 := by
  rw [runN_append, runN_append, run_four _ (x0 ^^^ t0) _ _ _ s, run_four _ x0 _ _ _ s, run_split, runN_xor] at he
  have hz : iter stepN (s.length * 8) (runN 0 [t0, t1, t2, t3]) = 0 := by
    have := congrArg (runN (runN (runN c p) [x0, x1, x2, x3]) s ^^^ ·) he
    simpa only [xor_cancel, Nat.xor_self] using this
  exact run4_ne _ _ _ _ (iter_eq_zero _ (runN_lt _ (by omega)) hz)
theorem bytes_zero (t : Nat) (ht : t < 4294967296) (h : (UInt8.ofNat t).toNat = 0 ∧ (UInt8.ofNat (t / 256)).toNat = 0 ∧ (UInt8.ofNat (t / 65536)).toNat = 0 ∧ (UInt8.ofNat (t / 16777216)).toNat = 0) : t = 0 := by
  simp only [UInt8.toNat_ofNat'] at h
  omega
/-- Bits within 32 in a row that are turned make another sum. -/
theorem sum_finds (l : List UInt8) (i t : Nat) (h : i + 4 ≤ l.length) (ht : t < 4294967296) (h0 : t ≠ 0) : sumN (turned t i l 4) ≠ sumN l := by
  obtain ⟨p, x0, x1, x2, x3, s, rfl, rfl⟩ := split_four l i h
  rw [turned_four]
  unfold sumN
  intro he
  exact h0 (bytes_zero t ht (sum_turned _ _ _ _ _ _ _ _ _ _ _ ((xor_left_inj _ _ _).1 he)))

end Go.Proofs.Ytddmifbgbmjdaaa
