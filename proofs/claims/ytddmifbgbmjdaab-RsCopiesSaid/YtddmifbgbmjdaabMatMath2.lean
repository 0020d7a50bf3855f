/- Plain laws of matrices: the rank as the law reckons it. -/
import Derived.Test.YtddmifbgbmjdaabMatMath
set_option linter.unusedVariables false
set_option linter.unusedSimpArgs false
namespace Go.Proofs.Ytddmifbgbmjdaab

def Ker (n : Nat) (F : Nat → Nat → UInt8) (x : Nat → UInt8) : Prop := ∀ i, i < n → mv n F x i = 0
theorem Ker.swap {n a b : Nat} {F : Nat → Nat → UInt8} {x : Nat → UInt8} (h : Ker n F x) (ha : a < n) (hb : b < n) : Ker n (swapF a b F) x := fun i hi => by
  rw [mv_swap]
  split
  · exact h b hb
  · split
    · exact h a ha
    · exact h i hi
/-- To the rows behind the place comes its row, so that the column is 0 there. -/
def lowF (a c : Nat) (F : Nat → Nat → UInt8) : Nat → Nat → UInt8 := fun i k => if i ≤ a then F i k else F i k ^^^ gmul (gmul (F i c) (ginv (F a c))) (F a k)
theorem Ker.low {n a : Nat} {F : Nat → Nat → UInt8} {x : Nat → UInt8} (h : Ker n F x) (ha : a < n) (c : Nat) : Ker n (lowF a c F) x := fun i hi => by
  by_cases hia : i ≤ a
  · rw [mv_congr n _ F x i (fun j _ => by unfold lowF; rw [if_pos hia])]
    exact h i hi
  · have : mv n (lowF a c F) x i = mv n F x i ^^^ gmul (gmul (F i c) (ginv (F a c))) (mv n F x a) := by
      unfold mv
      rw [← gsum_mul, ← gsum_xor]
      refine gsum_congr _ _ _ fun j _ => ?_
      unfold lowF
      rw [if_neg hia, xor_gmul, gmul_assoc (gmul (F i c) (ginv (F a c)))]
    rw [this, h i hi, h a ha, gmul_zero]
    rfl
def Tri (n c : Nat) (F : Nat → Nat → UInt8) : Prop := ∀ j, j < c → F j j ≠ 0 ∧ ∀ i, j < i → i < n → F i j = 0
theorem Tri.swap {n c p : Nat} {F : Nat → Nat → UInt8} (h : Tri n c F) (hc : c ≤ p) (hp : p < n) : Tri n c (swapF c p F) := fun j hj => by
  refine ⟨?_, fun i hij hi => ?_⟩
  · unfold swapF
    rw [if_neg (by omega), if_neg (by omega)]
    exact (h j hj).1
  · unfold swapF
    by_cases e1 : i = c
    · rw [if_pos e1]; exact (h j hj).2 p (by omega) hp
    · rw [if_neg e1]
      by_cases e2 : i = p
      · rw [if_pos e2]; exact (h j hj).2 c (by omega) (by omega)
      · rw [if_neg e2]; exact (h j hj).2 i hij hi
theorem Tri.low {n c : Nat} {F : Nat → Nat → UInt8} (h : Tri n c F) (hc : c < n) (hp : F c c ≠ 0) : Tri n (c + 1) (lowF c c F) := fun j hj => by
  have hd : lowF c c F j j = F j j := by unfold lowF; rw [if_pos (by omega)]
  refine ⟨?_, fun i hij hi => ?_⟩
  · rw [hd]
    by_cases e : j = c
    · subst e; exact hp
    · exact (h j (by omega)).1
  · unfold lowF
    by_cases hic : i ≤ c
    · rw [if_pos hic]; exact (h j (by omega)).2 i hij hi
    · rw [if_neg hic]
      by_cases e : j = c
      · subst e
        rw [gmul_assoc, gmul_comm (ginv _), gmul_inv _ hp, gmul_one, UInt8.xor_self]
      · rw [(h j (by omega)).2 i hij hi, (h j (by omega)).2 c (by omega) hc, gmul_zero]
        rfl
theorem Tri.zero {n : Nat} {F : Nat → Nat → UInt8} (h : Tri n n F) (x : Nat → UInt8) (hx : Ker n F x) : ∀ k, k < n → x k = 0 := by
  have key : ∀ d, d ≤ n → ∀ k, n - d ≤ k → k < n → x k = 0 := by
    intro d
    induction d with
    | zero => intro _ k h1 h2; omega
    | succ d ih =>
      intro hd k h1 h2
      by_cases e : k = n - (d + 1)
      · have h3 := hx k h2
        unfold mv at h3
        rw [gsum_one n _ k h2 (fun j hj hne => by
          by_cases hjk : j < k
          · rw [(h j hj).2 k hjk h2, zero_gmul]
          · rw [ih (by omega) j (by omega) hj, gmul_zero])] at h3
        rcases gmul_eq_zero h3 with h4 | h4
        · exact absurd h4 (h k h2).1
        · exact h4
      · exact ih (by omega) k (by omega) h2
  exact fun k hk => key n (Nat.le_refl _) k (by omega) hk
/-- Something that goes to 0: the rows cannot be all there. -/
theorem rank_lt {n r : Nat} {F : Nat → Nat → UInt8} {x : Nat → UInt8} {c : Nat} (hc : c < n) (h1 : x c = 1) (hk : Ker n F x) (ht : r = n → Tri n n F) (hr : r ≤ n) : r < n := by
  rcases Nat.lt_or_ge r n with h | h
  · exact h
  · have := (ht (by omega)).zero x hk c hc
    rw [h1] at this
    exact absurd this (by decide)
end Go.Proofs.Ytddmifbgbmjdaab
