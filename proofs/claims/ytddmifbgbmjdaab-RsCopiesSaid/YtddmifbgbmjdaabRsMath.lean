/- Plain laws of the code: Lagrange's polynomial; what a code's rows are; any of them that are enough tell all. -/
import Derived.Test.YtddmifbgbmjdaabPoly
import Derived.Test.YtddmifbgbmjdaabMatMath2
set_option linter.unusedVariables false
set_option linter.unusedSimpArgs false
namespace Go.Proofs.Ytddmifbgbmjdaab

/-- The product of 'x and l' over all l but one. -/
def upF2 (x : UInt8) (i : Nat) : Nat → UInt8
  | 0 => 1
  | k + 1 => if k = i then upF2 x i k else gmul (upF2 x i k) (x ^^^ UInt8.ofNat k)
theorem upF2_poly (i k : Nat) : PolyLt (if i < k then k else k + 1) (fun x => upF2 x i k) := by
  induction k with
  | zero => simp only [Nat.not_lt_zero, if_false]; exact PolyLt.const 1
  | succ k ih =>
    by_cases e : k = i
    · subst e
      simp only [Nat.lt_irrefl, if_false] at ih
      rw [if_pos (by omega)]
      exact ih.congr fun x => by simp [upF2]
    · have h2 := ih.mul1 (UInt8.ofNat k)
      by_cases h : i < k
      · rw [if_pos h] at h2
        rw [if_pos (by omega)]
        exact h2.congr fun x => by simp [upF2, e]
      · rw [if_neg h] at h2
        rw [if_neg (by omega)]
        exact h2.congr fun x => by simp [upF2, e]
theorem upF2_zero (k i j : Nat) (hj : j < k) (hne : j ≠ i) : upF2 (UInt8.ofNat j) i k = 0 := by
  induction k with
  | zero => omega
  | succ k ih =>
    unfold upF2
    by_cases e : k = i
    · rw [if_pos e]; exact ih (by omega)
    · rw [if_neg e]
      by_cases ej : j = k
      · subst ej; rw [UInt8.xor_self, gmul_zero]
      · rw [ih (by omega), zero_gmul]
theorem upF2_ne (k i : Nat) (hk : k ≤ 256) (hi : i < 256) : upF2 (UInt8.ofNat i) i k ≠ 0 := by
  induction k with
  | zero => show (1 : UInt8) ≠ 0; decide
  | succ k ih =>
    unfold upF2
    by_cases e : k = i
    · rw [if_pos e]; exact ih (by omega)
    · rw [if_neg e]
      intro h
      rcases gmul_eq_zero h with h | h
      · exact ih (by omega) h
      · exact e (ofNat_inj (by omega) hi (xor_eq_zero8 h).symm)
/-- Lagrange: the one polynomial through k values, at a place. -/
def atF (k : Nat) (v : Nat → UInt8) (x : UInt8) : UInt8 := gsum k fun i => gmul (v i) (gmul (upF2 x i k) (ginv (upF2 (UInt8.ofNat i) i k)))
theorem atF_poly (k : Nat) (v : Nat → UInt8) : PolyLt k (atF k v) := by
  refine PolyLt.gsum k k (fun i x => gmul (v i) (gmul (upF2 x i k) (ginv (upF2 (UInt8.ofNat i) i k)))) fun i hi => ?_
  have h := upF2_poly i k
  rw [if_pos hi] at h
  exact ((h.scale (ginv (upF2 (UInt8.ofNat i) i k))).scale (v i)).congr fun x => by rw [gmul_comm (ginv _)]
theorem atF_at (k : Nat) (v : Nat → UInt8) (j : Nat) (hj : j < k) (hk : k ≤ 256) : atF k v (UInt8.ofNat j) = v j := by
  unfold atF
  rw [gsum_one k _ j hj (fun i _ hne => by rw [upF2_zero k i j hj (fun e => hne e.symm), zero_gmul, gmul_zero]), gmul_inv _ (upF2_ne k j hk (by omega)), gmul_one]
theorem atF_congr (k : Nat) (v u : Nat → UInt8) (x : UInt8) (h : ∀ i, i < k → v i = u i) : atF k v x = atF k u x := gsum_congr _ _ _ fun i hi => by rw [h i hi]
theorem atF_add (k : Nat) (v u : Nat → UInt8) (x : UInt8) : atF k (fun i => v i ^^^ u i) x = atF k v x ^^^ atF k u x := by
  unfold atF
  rw [← gsum_xor]
  exact gsum_congr _ _ _ fun i _ => xor_gmul _ _ _
theorem atF_mul (k : Nat) (v : Nat → UInt8) (c x : UInt8) : atF k (fun i => gmul (v i) c) x = gmul (atF k v x) c := by
  unfold atF
  rw [← gsum_mulr]
  refine gsum_congr _ _ _ fun i _ => ?_
  rw [gmul_assoc, gmul_comm c, ← gmul_assoc]
theorem atF_one (v : Nat → UInt8) (x : UInt8) : atF 1 v x = v 0 := by
  unfold atF
  simp only [gsum, upF2, if_true, UInt8.zero_xor]
  rw [show ginv 1 = 1 from by decide +kernel, gmul_one, gmul_one]
/-- Rows of a code: what they make of a polynomial's values is its value. -/
def CodeP (k n : Nat) (C : Nat → Nat → UInt8) : Prop := ∀ pos, pos < n → ∀ f, PolyLt k f → gsum k (fun i => gmul (C pos i) (f (UInt8.ofNat i))) = f (UInt8.ofNat pos)
theorem CodeP.at_ {k n : Nat} {C : Nat → Nat → UInt8} (h : CodeP k n C) (hk : k ≤ 256) (pos : Nat) (hp : pos < n) (v : Nat → UInt8) : gsum k (fun i => gmul (C pos i) (v i)) = atF k v (UInt8.ofNat pos) := by
  rw [← h pos hp _ (atF_poly k v)]
  exact gsum_congr _ _ _ fun i hi => by rw [atF_at k v i hi hk]
theorem CodeP.row {k n : Nat} {C : Nat → Nat → UInt8} (h : CodeP k n C) (hk : k ≤ 256) (pos : Nat) (hp : pos < n) (i : Nat) (hi : i < k) : C pos i = atF k (fun j => if j = i then 1 else 0) (UInt8.ofNat pos) := by
  rw [← h.at_ hk pos hp, gsum_one k _ i hi (fun j _ hne => by simp only [if_neg hne, gmul_zero])]
  simp only [if_true, gmul_one]
/-- By powers. -/
theorem CodeP.of_powers {k n : Nat} {C : Nat → Nat → UInt8} (h : ∀ pos, pos < n → ∀ j, j < k → mulF k C vanF pos j = vanF pos j) : CodeP k n C := by
  intro pos hp f ⟨l, hl, he⟩
  have e1 : ∀ x, f x = gsum k fun j => gmul (l.getD j 0) (gpow x j) := fun x => by
    rw [he, ← geval_row k (fun j => l.getD j 0) x]
    have : ∀ (l : List UInt8) (k : Nat), l.length ≤ k → geval x (rowL k fun j => l.getD j 0) = geval x l := by
      intro l
      induction l with
      | nil =>
        intro k _
        induction k with
        | zero => rfl
        | succ k ih =>
          have e : rowL (k + 1) (fun j => ([] : List UInt8).getD j 0) = 0 :: rowL k (fun j => ([] : List UInt8).getD j 0) := by simp [rowL, List.range_succ_eq_map, List.map_map, Function.comp_def]
          rw [e, geval_cons, ih (by simp), geval_nil, zero_gmul]; rfl
      | cons c t ih =>
        intro k hk
        cases k with
        | zero => simp at hk
        | succ k =>
          have e : rowL (k + 1) (fun j => (c :: t).getD j 0) = c :: rowL k (fun j => t.getD j 0) := by simp [rowL, List.range_succ_eq_map, List.map_map, Function.comp_def]
          rw [e, geval_cons, ih k (by simpa using hk), geval_cons]
    exact (this l k hl).symm
  rw [e1 (UInt8.ofNat pos)]
  rw [gsum_congr k _ (fun i => gsum k fun j => gmul (l.getD j 0) (gmul (C pos i) (vanF i j))) (fun i _ => by
    rw [e1, ← gsum_mul]
    refine gsum_congr _ _ _ fun j _ => ?_
    rw [← gmul_assoc, gmul_comm (C pos i), gmul_assoc]; rfl), gsum_swap]
  refine gsum_congr _ _ _ fun j hj => ?_
  rw [gsum_mul]
  show gmul _ (mulF k C vanF pos j) = _
  rw [h pos hp j hj]
  rfl
theorem CodeP.made {k n : Nat} {Fo : Nat → Nat → UInt8} (h : ∀ i j, i < k → j < k → mulF k Fo vanF i j = oneF i j) : CodeP k n (mulF k vanF Fo) :=
  CodeP.of_powers fun pos _ j hj => by
    rw [mulF_assoc, mulF_congr k vanF (mulF k Fo vanF) vanF oneF pos j (fun _ _ => rfl) (fun i hi => h i j hi hj), mulF_one k vanF pos j hj]
theorem van_ker {k : Nat} (hk : k ≤ 256) (x : Nat → UInt8) (h : Ker k vanF x) (c : Nat) (hc : c < k) : x c = 0 := van_free k id (fun i hi => by simp; omega) (fun i j _ _ e => e) x h c hc
/-- Enough rows of unlike positions: nothing but 0 goes to 0. -/
theorem CodeP.ker {k n : Nat} {C : Nat → Nat → UInt8} (h : CodeP k n C) (hk : k ≤ 256) (hn : n ≤ 256) (p : Nat → Nat) (hp : ∀ t, t < k → p t < n) (hinj : ∀ s t, s < k → t < k → p s = p t → s = t) (x : Nat → UInt8) (hx : Ker k (fun t => C (p t)) x) (c : Nat) (hc : c < k) : x c = 0 := by
  have h1 : ∀ y, atF k x y = 0 := fun y => (atF_poly k x).zero_of ((List.range k).map fun t => UInt8.ofNat (p t)) (nodup_points k p (fun t ht => by have := hp t ht; omega) hinj) (by simp) (fun q hq => by
    obtain ⟨t, ht, rfl⟩ := List.mem_map.1 hq
    have ht := List.mem_range.1 ht
    rw [← h.at_ hk (p t) (hp t ht)]
    exact hx t ht) y
  rw [← atF_at k x c hc hk, h1]
end Go.Proofs.Ytddmifbgbmjdaab
