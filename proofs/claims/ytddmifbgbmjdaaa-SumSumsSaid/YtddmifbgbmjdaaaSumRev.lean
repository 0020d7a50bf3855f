/- The reference's checksum is the same: reflections are linear. -/
import Derived.Test.YtddmifbgbmjdaaaSumMath
set_option linter.unusedVariables false
set_option linter.unusedSimpArgs false
namespace Go.Proofs.Ytddmifbgbmjdaaa

/-! ### linear functions are told by their values at the powers of 2 -/
theorem split_top (n x : Nat) (hx : x < 2 ^ (n + 1)) : x = (x % 2 ^ n) ^^^ (if x.testBit n = true then 2 ^ n else 0) := by
  apply Nat.eq_of_testBit_eq
  intro i
  rw [Nat.testBit_xor, Nat.testBit_mod_two_pow]
  by_cases h : i < n
  · have : (if x.testBit n = true then 2 ^ n else 0).testBit i = false := by
      split
      · rw [Nat.testBit_two_pow]; simp; omega
      · simp
    simp [h, this]
  · by_cases e : i = n
    · subst e
      cases hb : x.testBit i <;> simp
    · have hlt : x.testBit i = false := Nat.testBit_lt_two_pow (Nat.lt_of_lt_of_le hx (Nat.pow_le_pow_right (by omega) (by omega)))
      have : (if x.testBit n = true then 2 ^ n else 0).testBit i = false := by
        split
        · rw [Nat.testBit_two_pow]; simp; omega
        · simp
      simp [h, hlt, this]
theorem linear_zero (f : Nat → Nat) (hf : ∀ x y, f (x ^^^ y) = f x ^^^ f y) : f 0 = 0 := by
  have := hf 0 0
  simpa using this
theorem linear_ext (f g : Nat → Nat) (hf : ∀ x y, f (x ^^^ y) = f x ^^^ f y) (hg : ∀ x y, g (x ^^^ y) = g x ^^^ g y) (n : Nat) (h : ∀ i, i < n → f (2 ^ i) = g (2 ^ i)) : ∀ x, x < 2 ^ n → f x = g x := by
  induction n with
  | zero =>
    intro x hx
    have : x = 0 := by omega
    rw [this, linear_zero f hf, linear_zero g hg]
  | succ n ih =>
    intro x hx
    rw [split_top n x hx, hf, hg, ih (fun i hi => h i (by omega)) _ (Nat.mod_lt _ (Nat.two_pow_pos n))]
    congr 1
    split
    · exact h n (by omega)
    · rw [linear_zero f hf, linear_zero g hg]

/-! ### bits turned round -/
/-- Bit by bit turned round, n bits. -/
def revN : Nat → Nat → Nat
  | 0, _ => 0
  | n + 1, x => (x % 2) * 2 ^ n + revN n (x / 2)
theorem revN_lt (n x : Nat) : revN n x < 2 ^ n := by
  induction n generalizing x with
  | zero => simp [revN]
  | succ n ih =>
    have := ih (x / 2)
    have h2 := Nat.mod_lt x (show 0 < 2 from by omega)
    rw [revN, Nat.pow_succ]
    have : (x % 2) * 2 ^ n ≤ 1 * 2 ^ n := Nat.mul_le_mul_right _ (by omega)
    omega
def rev8 (b : UInt8) : UInt8 := UInt8.ofNat (revN 8 b.toNat)
theorem rev8_toNat (b : UInt8) : (rev8 b).toNat = revN 8 b.toNat := by
  have := revN_lt 8 b.toNat
  unfold rev8
  rw [UInt8.toNat_ofNat']
  omega
theorem table_ok (s : ByteArray) (hs : s.data.toList.map UInt8.toNat = (List.range 256).map (revN 8)) (b : UInt8) (h : b.toNat < s.size) : (s[b.toNat]'h).toNat = (rev8 b).toNat := by
  have hb := b.toNat_lt
  rw [rev8_toNat]
  have h1 : (s.data.toList.map UInt8.toNat)[b.toNat]? = some (revN 8 b.toNat) := by
    rw [hs]
    simp [hb]
  rw [List.getElem?_map, List.getElem?_eq_getElem (by rw [Array.length_toList]; exact h)] at h1
  simp only [Option.map_some, Option.some.injEq] at h1
  exact h1

/-- One step of the turning round: what lies at the mask's places and what lies beside them change places. -/
def stg (s m x : Nat) : Nat := ((x >>> s) &&& m) ||| ((x &&& m) <<< s)
theorem stg_xor (s m : Nat) (hm : m &&& (m <<< s) = 0) (x y : Nat) : stg s m (x ^^^ y) = stg s m x ^^^ stg s m y := by
  apply Nat.eq_of_testBit_eq
  intro i
  have h := congrArg (fun n => Nat.testBit n i) hm
  simp only [Nat.testBit_and, Nat.testBit_shiftLeft, Nat.zero_testBit] at h
  simp only [stg, Nat.testBit_or, Nat.testBit_xor, Nat.testBit_and, Nat.testBit_shiftLeft, Nat.testBit_shiftRight]
  revert h
  generalize x.testBit (s + i) = a
  generalize y.testBit (s + i) = b
  generalize x.testBit (i - s) = c
  generalize y.testBit (i - s) = d
  generalize m.testBit i = e
  generalize m.testBit (i - s) = f
  generalize decide (i ≥ s) = g
  revert a b c d e f g
  decide
def rev32 (x : Nat) : Nat := stg 16 65535 (stg 8 16711935 (stg 4 252645135 (stg 2 858993459 (stg 1 1431655765 x))))
theorem rev32_xor (x y : Nat) : rev32 (x ^^^ y) = rev32 x ^^^ rev32 y := by
  unfold rev32
  rw [stg_xor 1 _ (by decide), stg_xor 2 _ (by decide), stg_xor 4 _ (by decide), stg_xor 8 _ (by decide), stg_xor 16 _ (by decide)]
theorem stg_lt (s m x : Nat) (h1 : m < 4294967296) (h2 : m <<< s < 4294967296) : stg s m x < 4294967296 := by
  unfold stg
  have ha : (x >>> s) &&& m < 4294967296 := Nat.lt_of_le_of_lt Nat.and_le_right h1
  have hb : (x &&& m) <<< s < 4294967296 := by
    rw [Nat.shiftLeft_eq] at *
    exact Nat.lt_of_le_of_lt (Nat.mul_le_mul_right _ Nat.and_le_right) h2
  exact Nat.or_lt_two_pow (n := 32) ha hb
theorem rev32_lt (x : Nat) : rev32 x < 4294967296 := stg_lt _ _ _ (by decide) (by decide)

/-! ### the division -/
def red (k r : Nat) : Nat := if r / 2 ^ k % 2 = 1 then r ^^^ (4374732215 * 2 ^ (k - 32)) else r
theorem red_xor (k x y : Nat) : red k (x ^^^ y) = red k x ^^^ red k y := by
  have hb : ∀ r : Nat, (r / 2 ^ k % 2 = 1) = (r.testBit k = true) := fun r => by
    rw [Nat.testBit_eq_decide_div_mod_eq]; simp
  unfold red
  simp only [hb, Nat.testBit_xor]
  generalize 4374732215 * 2 ^ (k - 32) = p
  cases x.testBit k <;> cases y.testBit k <;> simp
  · ac_rfl
  · ac_rfl
  · rw [show (x ^^^ p) ^^^ (y ^^^ p) = x ^^^ y ^^^ (p ^^^ p) from by ac_rfl, Nat.xor_self, Nat.xor_zero]
/-- Behind j rounds of the division. -/
def redN : Nat → Nat → Nat
  | 0, r => r
  | j + 1, r => red (39 - j) (redN j r)
theorem redN_xor (j x y : Nat) : redN j (x ^^^ y) = redN j x ^^^ redN j y := by
  induction j with
  | zero => rfl
  | succ j ih => rw [redN, ih, red_xor]; rfl
theorem redN_id (j x : Nat) (hj : j ≤ 8) (hx : x < 4294967296) : redN j x = x := by
  induction j with
  | zero => rfl
  | succ j ih =>
    rw [redN, ih (by omega), red, if_neg]
    have : x / 2 ^ (39 - j) = 0 := Nat.div_eq_of_lt (Nat.lt_of_lt_of_le hx (Nat.pow_le_pow_right (n := 2) (by omega) (show 32 ≤ 39 - j from by omega)))
    rw [this]
    decide
theorem red_lt (k r : Nat) (h1 : 32 ≤ k) (h2 : k ≤ 39) (hr : r < 1099511627776) : red k r < 1099511627776 := by
  unfold red
  split
  · refine Nat.xor_lt_two_pow (n := 40) hr ?_
    have : 2 ^ (k - 32) ≤ 2 ^ 7 := Nat.pow_le_pow_right (by omega) (by omega)
    exact Nat.lt_of_le_of_lt (Nat.mul_le_mul_left _ this) (by decide)
  · exact hr
theorem redN_lt (j r : Nat) (hj : j ≤ 8) (hr : r < 1099511627776) : redN j r < 1099511627776 := by
  induction j with
  | zero => exact hr
  | succ j ih => exact red_lt _ _ (by omega) (by omega) (ih (by omega))
theorem red_small (k r : Nat) (hr : r < 2 ^ (k + 1)) (hk : 32 ≤ k) : red k r < 2 ^ k := by
  have h2 : 2 ^ (k + 1) = 2 * 2 ^ k := by rw [Nat.pow_succ]; omega
  have hp := Nat.two_pow_pos k
  have hd : r / 2 ^ k < 2 := Nat.div_lt_of_lt_mul (by omega)
  unfold red
  split
  · rename_i h
    have e1 : r.testBit k = true := by rw [Nat.testBit_eq_decide_div_mod_eq]; simp [h]
    have hP : 4374732215 * 2 ^ (k - 32) < 2 ^ (k + 1) := by
      refine Nat.lt_of_lt_of_le (m := 2 ^ 33 * 2 ^ (k - 32)) ((Nat.mul_lt_mul_right (Nat.two_pow_pos _)).2 (by decide)) ?_
      rw [← Nat.pow_add]
      exact Nat.pow_le_pow_right (by omega) (by omega)
    have e2 : (4374732215 * 2 ^ (k - 32)).testBit k = true := by
      rw [Nat.mul_comm, Nat.testBit_two_pow_mul]
      have : (4374732215 : Nat).testBit 32 = true := by decide
      rw [show k - (k - 32) = 32 from by omega, this]
      simp
    apply Nat.lt_pow_two_of_testBit
    intro i hi
    rw [Nat.testBit_xor]
    by_cases e : i = k
    · subst e; rw [e1, e2]; rfl
    · rw [Nat.testBit_lt_two_pow (Nat.lt_of_lt_of_le hr (Nat.pow_le_pow_right (by omega) (by omega))), Nat.testBit_lt_two_pow (Nat.lt_of_lt_of_le hP (Nat.pow_le_pow_right (by omega) (by omega)))]
      rfl
  · rename_i h
    have h0 : r / 2 ^ k = 0 := by
      generalize r / 2 ^ k = q at *
      omega
    exact (Nat.div_eq_zero_iff_lt hp).1 h0
theorem redN_small (j r : Nat) (hj : j ≤ 8) (hr : r < 1099511627776) : redN j r < 2 ^ (40 - j) := by
  induction j with
  | zero => exact hr
  | succ j ih =>
    have := red_small (39 - j) (redN j r) (by rw [show 39 - j + 1 = 40 - j from by omega]; exact ih (by omega)) (by omega)
    rw [show 40 - (j + 1) = 39 - j from by omega]
    exact this
/-- A byte goes into the division. -/
def T8 (v : Nat) : Nat := redN 8 (v <<< 8)
theorem T8_xor (x y : Nat) : T8 (x ^^^ y) = T8 x ^^^ T8 y := by unfold T8; rw [Nat.shiftLeft_xor_distrib, redN_xor]
theorem T8_small (v : Nat) (h : v < 16777216) : T8 v = v <<< 8 := redN_id 8 (v <<< 8) (by omega) (by rw [Nat.shiftLeft_eq]; omega)
theorem T8_byte (v x : Nat) (hx : x < 4294967296) : redN 8 ((v <<< 8) ^^^ x) = T8 v ^^^ x := by rw [redN_xor, redN_id 8 x (by omega) hx]; rfl
theorem rev_step8 (c : Nat) (h : c < 4294967296) : rev32 (iter stepN 8 c) = T8 (rev32 c) :=
  linear_ext (fun c => rev32 (iter stepN 8 c)) (fun c => T8 (rev32 c)) (fun x y => by simp only [iter_xor, rev32_xor]) (fun x y => by simp only [rev32_xor, T8_xor]) 32 (by decide +kernel) c h
theorem rev_rev (c : Nat) (h : c < 4294967296) : rev32 (rev32 c) = c :=
  linear_ext (fun c => rev32 (rev32 c)) (fun c => c) (fun x y => by simp only [rev32_xor]) (fun x y => rfl) 32 (by decide +kernel) c h
theorem rev_byte (b : UInt8) : rev32 b.toNat = (rev8 b).toNat <<< 24 := by
  rw [rev8_toNat]
  have : ∀ n, n < 256 → rev32 n = revN 8 n <<< 24 := by decide +kernel
  exact this _ b.toNat_lt

/-! ### the two ways -/
def aug (s : Nat) (l : List Nat) : Nat := l.foldl (fun s x => T8 s ^^^ x) s
def dirr (s : Nat) (l : List Nat) : Nat := l.foldl (fun s x => T8 (s ^^^ x <<< 24)) s
theorem aug_cons (s x : Nat) (l : List Nat) : aug s (x :: l) = aug (T8 s ^^^ x) l := by simp only [aug, List.foldl]
theorem dirr_cons (s x : Nat) (l : List Nat) : dirr s (x :: l) = dirr (T8 (s ^^^ x <<< 24)) l := by simp only [dirr, List.foldl]
theorem T8_lt (v : Nat) (h : v < 4294967296) : T8 v < 4294967296 := redN_small 8 _ (by omega) (by rw [Nat.shiftLeft_eq]; omega)
theorem aug_lt (l : List Nat) : ∀ s, s < 4294967296 → (∀ x ∈ l, x < 256) → aug s l < 4294967296 := by
  induction l with
  | nil => intro s h _; exact h
  | cons x l ih =>
    intro s h hl
    rw [aug_cons]
    refine ih _ (Nat.xor_lt_two_pow (n := 32) (T8_lt s h) ?_) (fun y hy => hl y (by simp [hy]))
    have := hl x (by simp)
    omega
theorem aug_snoc (l : List Nat) (s x : Nat) : aug s (l ++ [x]) = T8 (aug s l) ^^^ x := by simp only [aug, List.foldl_append, List.foldl]
theorem T8_three (x : Nat) (hx : x < 256) : T8 (T8 (T8 x)) = x <<< 24 := by
  have e : ∀ v : Nat, v <<< 8 = v * 256 := fun v => Nat.shiftLeft_eq v 8
  have h1 : T8 x = x * 256 := by rw [T8_small x (by omega), e]
  have h2 : T8 (x * 256) = x * 65536 := by rw [T8_small _ (by omega), e]; omega
  have h3 : T8 (x * 65536) = x * 16777216 := by rw [T8_small _ (by omega), e]; omega
  rw [h1, h2, h3, Nat.shiftLeft_eq]
theorem aug_dir (l : List Nat) : ∀ s, (∀ x ∈ l, x < 256) → aug s (l ++ [0, 0, 0, 0]) = dirr (T8 (T8 (T8 (T8 s)))) l := by
  induction l with
  | nil => intro s _; simp only [List.nil_append, aug, dirr, List.foldl, Nat.xor_zero]
  | cons x l ih =>
    intro s h
    have hx := h x (by simp)
    rw [List.cons_append, aug_cons, dirr_cons, ih _ (fun y hy => h y (by simp [hy]))]
    congr 1
    simp only [T8_xor]
    rw [T8_three x hx]
theorem aug_xor : ∀ (l m : List Nat) (s t : Nat), l.length = m.length → aug (s ^^^ t) (List.zipWith (· ^^^ ·) l m) = aug s l ^^^ aug t m
  | [], [], s, t, _ => rfl
  | x :: l, y :: m, s, t, h => by
    rw [List.zipWith_cons_cons, aug_cons, aug_cons, aug_cons, ← aug_xor l m _ _ (by simpa using h), T8_xor]
    congr 1
    ac_rfl
theorem dirr_xor (l : List Nat) : ∀ s t, dirr (s ^^^ t) l = dirr s l ^^^ iter T8 l.length t := by
  induction l with
  | nil => intro s t; rfl
  | cons x l ih =>
    intro s t
    have e : ∀ y : Nat, (s ^^^ t) ^^^ y = (s ^^^ y) ^^^ t := fun y => by ac_rfl
    rw [dirr_cons, dirr_cons, e, T8_xor, ih]
    simp only [List.length_cons, iter]
theorem aug_zeros (n s : Nat) : aug s (List.replicate n 0) = iter T8 n s := by
  induction n generalizing s with
  | zero => rfl
  | succ n ih =>
    have := ih (T8 s)
    simp only [aug, List.replicate, List.foldl, Nat.xor_zero, iter] at this ⊢
    exact this
/-- What the reference feeds into its division: the first four bytes are turned. -/
def fed (l : List UInt8) : List Nat := l.mapIdx fun i b => if i < 4 then 255 ^^^ (rev8 b).toNat else (rev8 b).toNat
theorem fed_lt (l : List UInt8) : ∀ x ∈ fed l, x < 256 := by
  intro x hx
  simp only [fed, List.mem_mapIdx] at hx
  obtain ⟨i, hi, rfl⟩ := hx
  have := (rev8 l[i]).toNat_lt
  split
  · exact Nat.xor_lt_two_pow (n := 8) (by omega) this
  · exact this
theorem fed_take (l : List UInt8) (k : Nat) (h : k < l.length) : (fed l).take (k + 1) = (fed l).take k ++ [if k < 4 then 255 ^^^ (rev8 l[k]).toNat else (rev8 l[k]).toNat] := by
  rw [List.take_succ_eq_append_getElem (by simp [fed, h])]
  simp [fed]
theorem fed_length (l : List UInt8) : (fed l).length = l.length := by simp [fed]
theorem fed_eq (l : List UInt8) : fed (l ++ [0, 0, 0, 0]) = List.zipWith (· ^^^ ·) (l.map (fun b => (rev8 b).toNat) ++ [0, 0, 0, 0]) ([255, 255, 255, 255] ++ List.replicate l.length 0) := by
  have hz : (rev8 0).toNat = 0 := by decide
  apply List.ext_getElem
  · simp [fed]
  · intro i h1 h2
    simp only [fed, List.getElem_mapIdx, List.getElem_zipWith]
    have e1 : (l.map (fun b => (rev8 b).toNat) ++ [0, 0, 0, 0])[i]'(by simp [fed] at h1; simp; omega) = (rev8 ((l ++ [0, 0, 0, 0])[i]'(by simpa [fed] using h1))).toNat := by
      have : (l.map (fun b => (rev8 b).toNat) ++ [0, 0, 0, 0]) = (l ++ [0, 0, 0, 0]).map (fun b => (rev8 b).toNat) := by simp [hz]
      simp only [this, List.getElem_map]
    rw [e1]
    by_cases h : i < 4
    · rw [if_pos h]
      have : ([255, 255, 255, 255] ++ List.replicate l.length 0)[i]'(by simp [fed] at h1; simp; omega) = 255 := by
        rw [List.getElem_append_left (by simpa using h)]
        rcases (show i = 0 ∨ i = 1 ∨ i = 2 ∨ i = 3 from by omega) with rfl | rfl | rfl | rfl <;> rfl
      rw [this]
      exact Nat.xor_comm _ _
    · rw [if_neg h]
      have : ([255, 255, 255, 255] ++ List.replicate l.length 0)[i]'(by simp [fed] at h1; simp; omega) = 0 := by
        rw [List.getElem_append_right (by simpa using h)]
        simp
      rw [this, Nat.xor_zero]
theorem fold_rev (l : List UInt8) : ∀ c, c < 4294967296 → rev32 (runN c l) = dirr (rev32 c) (l.map (fun b => (rev8 b).toNat)) := by
  induction l with
  | nil => intro c _; rfl
  | cons b l ih =>
    intro c hc
    rw [List.map_cons, dirr_cons, show runN c (b :: l) = runN (byteN c b) l from by simp only [runN, List.foldl], ih _ (byteN_lt b hc), byteN, rev_step8 _ (byte_start c b hc), rev32_xor, rev_byte]
theorem start_four : aug 0 [255, 255, 255, 255] = 4294967295 := by decide +kernel
/-- The reference's sum is the sum. -/
theorem ref_sum (l : List UInt8) : 4294967295 ^^^ rev32 (aug 0 (fed (l ++ [0, 0, 0, 0]))) = sumN l := by
  have hr : rev32 4294967295 = 4294967295 := by decide +kernel
  have h0 : T8 (T8 (T8 (T8 0))) = 0 := by decide +kernel
  have h1 : aug 0 (fed (l ++ [0, 0, 0, 0])) = dirr 4294967295 (l.map (fun b => (rev8 b).toNat)) := by
    have hx := aug_xor (l.map (fun b => (rev8 b).toNat) ++ [0, 0, 0, 0]) ([255, 255, 255, 255] ++ List.replicate l.length 0) 0 0 (by simp)
    rw [fed_eq]
    rw [Nat.xor_self] at hx
    rw [hx, aug_dir _ _ (fun x hx => by simp only [List.mem_map] at hx; obtain ⟨b, _, rfl⟩ := hx; exact (rev8 b).toNat_lt), h0]
    have ha : aug 0 ([255, 255, 255, 255] ++ List.replicate l.length 0) = iter T8 l.length 4294967295 := by
      rw [← aug_zeros, ← start_four]
      simp only [aug, List.foldl_append]
    rw [ha]
    have hd := dirr_xor (l.map (fun b => (rev8 b).toNat)) 0 4294967295
    rw [Nat.zero_xor, List.length_map] at hd
    exact hd.symm
  have h2 := fold_rev l 4294967295 (by omega)
  rw [hr] at h2
  rw [h1, ← h2, rev_rev _ (runN_lt l (by omega))]
  rfl
end Go.Proofs.Ytddmifbgbmjdaaa
