/- Plain laws of polynomials over the field: few roots; Vandermonde's matrix; Lagrange's polynomial. -/
import Derived.Test.YtddmifbgbmjdaabGfA
import Derived.Test.YtddmifbgbmjdaabMatMath
set_option linter.unusedVariables false
set_option linter.unusedSimpArgs false
namespace Go.Proofs.Ytddmifbgbmjdaab

theorem geval_nil (x : UInt8) : geval x [] = 0 := rfl
theorem geval_cons (x c : UInt8) (l : List UInt8) : geval x (c :: l) = gmul (geval x l) x ^^^ c := rfl
def quo (r : UInt8) : List UInt8 → List UInt8
  | [] => []
  | [_] => []
  | _ :: d :: t => geval r (d :: t) :: quo r (d :: t)
theorem quo_length (r : UInt8) (l : List UInt8) : (quo r l).length = l.length - 1 := by
  induction l with
  | nil => rfl
  | cons c t ih =>
    cases t with
    | nil => rfl
    | cons d t => simp only [quo, List.length_cons, ih]; omega
theorem quo_eval (r x : UInt8) (l : List UInt8) : geval x l = gmul (x ^^^ r) (geval x (quo r l)) ^^^ geval r l := by
  induction l with
  | nil => simp only [quo, geval_nil]; rw [gmul_zero]; rfl
  | cons c t ih =>
    cases t with
    | nil => simp only [quo, geval_cons, geval_nil, zero_gmul, gmul_zero, UInt8.zero_xor]
    | cons d t =>
      rw [geval_cons x c, ih, geval_cons r c]
      show _ = gmul (x ^^^ r) (geval x (geval r (d :: t) :: quo r (d :: t))) ^^^ _
      rw [geval_cons x (geval r (d :: t))]
      generalize geval r (d :: t) = a
      generalize geval x (quo r (d :: t)) = q
      rw [gmul_xor, xor_gmul, gmul_assoc, xor_gmul x r a, gmul_comm x a, gmul_comm r a]
      generalize gmul (x ^^^ r) (gmul q x) = u
      generalize gmul a x = v
      generalize gmul a r = s
      rw [UInt8.xor_assoc u (v ^^^ s), UInt8.xor_assoc v s, ← UInt8.xor_assoc s s, UInt8.xor_self, UInt8.zero_xor, UInt8.xor_assoc]
theorem quo_zero (r : UInt8) (l : List UInt8) (hq : ∀ a ∈ quo r l, a = 0) (h : geval r l = 0) : ∀ a ∈ l, a = 0 := by
  induction l with
  | nil => intro a ha; cases ha
  | cons c t ih =>
    cases t with
    | nil =>
      intro a ha
      simp only [List.mem_singleton] at ha
      subst ha
      simpa only [geval_cons, geval_nil, zero_gmul, UInt8.zero_xor] using h
    | cons d t =>
      have h1 : geval r (d :: t) = 0 := hq _ (by simp [quo])
      have h2 := ih (fun a ha => hq a (by simp only [quo, List.mem_cons]; exact .inr ha)) h1
      intro a ha
      rcases List.mem_cons.1 ha with rfl | ha
      · rw [geval_cons, h1, zero_gmul, UInt8.zero_xor] at h
        exact h
      · exact h2 a ha
theorem xor_eq_zero8 {a b : UInt8} (h : a ^^^ b = 0) : a = b := xor_right (c := b) (by rw [h, UInt8.xor_self])
/-- As many roots as numbers: all are 0. -/
theorem poly_zero (ps : List UInt8) (hn : ps.Nodup) : ∀ l : List UInt8, l.length ≤ ps.length → (∀ p ∈ ps, geval p l = 0) → ∀ a ∈ l, a = 0 := by
  induction ps with
  | nil =>
    intro l hl _ a ha
    have h0 : l = [] := List.eq_nil_of_length_eq_zero (by simpa using hl)
    subst h0
    cases ha
  | cons r ps ih =>
    intro l hl h
    obtain ⟨hr, hn'⟩ := List.nodup_cons.1 hn
    refine quo_zero r l (ih hn' (quo r l) (by rw [quo_length]; simp at hl; omega) fun p hp => ?_) (h r (by simp))
    have e := quo_eval r p l
    rw [h p (by simp [hp]), h r (by simp), UInt8.xor_zero] at e
    rcases gmul_eq_zero e.symm with e1 | e1
    · exact absurd (xor_eq_zero8 e1 ▸ hp) hr
    · exact e1
/-- A polynomial with fewer numbers than that. -/
def PolyLt (n : Nat) (f : UInt8 → UInt8) : Prop := ∃ l : List UInt8, l.length ≤ n ∧ ∀ x, f x = geval x l
theorem PolyLt.zero_of {n : Nat} {f : UInt8 → UInt8} (h : PolyLt n f) (ps : List UInt8) (hn : ps.Nodup) (hl : n ≤ ps.length) (h0 : ∀ p ∈ ps, f p = 0) (x : UInt8) : f x = 0 := by
  obtain ⟨l, hll, he⟩ := h
  have hz := poly_zero ps hn l (by omega) (fun p hp => (he p).symm.trans (h0 p hp))
  rw [he x]
  clear hll he
  induction l with
  | nil => rfl
  | cons c t ih =>
    rw [geval_cons, ih (fun a ha => hz a (by simp [ha])), zero_gmul, hz c (by simp)]
    rfl
theorem zip0 (a b : List UInt8) (x : UInt8) : ∃ l : List UInt8, l.length ≤ max a.length b.length ∧ geval x l = geval x a ^^^ geval x b ∧ ∀ y, geval y l = geval y a ^^^ geval y b := by
  suffices h : ∃ l : List UInt8, l.length ≤ max a.length b.length ∧ ∀ y, geval y l = geval y a ^^^ geval y b by
    obtain ⟨l, h1, h2⟩ := h
    exact ⟨l, h1, h2 x, h2⟩
  induction a generalizing b with
  | nil => exact ⟨b, by simp, fun y => by rw [geval_nil, UInt8.zero_xor]⟩
  | cons c t ih =>
    cases b with
    | nil => exact ⟨c :: t, by simp, fun y => by rw [geval_nil, UInt8.xor_zero]⟩
    | cons d s =>
      obtain ⟨l, h1, h2⟩ := ih s
      refine ⟨(c ^^^ d) :: l, by simp; omega, fun y => ?_⟩
      rw [geval_cons, h2, geval_cons, geval_cons, xor_gmul, xor4]
theorem PolyLt.add {n : Nat} {f g : UInt8 → UInt8} (hf : PolyLt n f) (hg : PolyLt n g) : PolyLt n (fun x => f x ^^^ g x) := by
  obtain ⟨a, ha, ea⟩ := hf
  obtain ⟨b, hb, eb⟩ := hg
  obtain ⟨l, h1, _, h2⟩ := zip0 a b 0
  exact ⟨l, by omega, fun x => by show f x ^^^ g x = _; rw [h2, ea, eb]⟩
theorem PolyLt.scale {n : Nat} {f : UInt8 → UInt8} (c : UInt8) (hf : PolyLt n f) : PolyLt n (fun x => gmul c (f x)) := by
  obtain ⟨a, ha, ea⟩ := hf
  refine ⟨a.map (gmul c), by simpa using ha, fun x => ?_⟩
  show gmul c (f x) = _
  rw [ea]
  clear ha ea
  induction a with
  | nil => rw [List.map_nil, geval_nil, gmul_zero]
  | cons d t ih => rw [List.map_cons, geval_cons, geval_cons, ← ih, gmul_xor, gmul_assoc]
theorem PolyLt.mono {n m : Nat} {f : UInt8 → UInt8} (h : PolyLt n f) (hm : n ≤ m) : PolyLt m f := by
  obtain ⟨l, h1, h2⟩ := h
  exact ⟨l, by omega, h2⟩
theorem PolyLt.const (c : UInt8) : PolyLt 1 (fun _ => c) := ⟨[c], by simp, fun x => by rw [geval_cons, geval_nil, zero_gmul, UInt8.zero_xor]⟩
theorem PolyLt.mulx {n : Nat} {f : UInt8 → UInt8} (h : PolyLt n f) : PolyLt (n + 1) (fun x => gmul (f x) x) := by
  obtain ⟨l, h1, h2⟩ := h
  exact ⟨0 :: l, by simp; omega, fun x => by rw [geval_cons, ← h2, UInt8.xor_zero]⟩
theorem PolyLt.mul1 {n : Nat} {f : UInt8 → UInt8} (h : PolyLt n f) (a : UInt8) : PolyLt (n + 1) (fun x => gmul (f x) (x ^^^ a)) := by
  have := h.mulx.add ((h.scale a).mono (Nat.le_succ n))
  obtain ⟨l, h1, h2⟩ := this
  exact ⟨l, h1, fun x => by rw [← h2]; show gmul (f x) (x ^^^ a) = gmul (f x) x ^^^ gmul a (f x); rw [gmul_xor, gmul_comm a]⟩
theorem PolyLt.congr {n : Nat} {f g : UInt8 → UInt8} (h : PolyLt n f) (e : ∀ x, f x = g x) : PolyLt n g := by
  obtain ⟨l, h1, h2⟩ := h
  exact ⟨l, h1, fun x => by rw [← e, h2]⟩
theorem PolyLt.zero (n : Nat) : PolyLt n (fun _ => 0) := ⟨[], by simp, fun _ => rfl⟩
theorem PolyLt.gsum (n m : Nat) (f : Nat → UInt8 → UInt8) (h : ∀ i, i < m → PolyLt n (f i)) : PolyLt n (fun x => Go.Proofs.Ytddmifbgbmjdaab.gsum m fun i => f i x) := by
  induction m with
  | zero => exact PolyLt.zero n
  | succ m ih => exact (ih fun i hi => h i (by omega)).add (h m (by omega))
theorem PolyLt.pow (j : Nat) : PolyLt (j + 1) (fun x => gpow x j) := by
  induction j with
  | zero => exact PolyLt.const 1
  | succ j ih => exact ih.mulx

/-! ### Vandermonde's matrix -/
def vanF : Nat → Nat → UInt8 := fun i k => gpow (UInt8.ofNat i) k
theorem geval_row (n : Nat) (a : Nat → UInt8) (x : UInt8) : geval x (rowL n a) = Go.Proofs.Ytddmifbgbmjdaab.gsum n fun j => gmul (a j) (gpow x j) := by
  induction n generalizing a with
  | zero => rfl
  | succ n ih =>
    have e1 : rowL (n + 1) a = a 0 :: rowL n (fun j => a (j + 1)) := by simp [rowL, List.range_succ_eq_map, List.map_map, Function.comp_def]
    have e2 : ∀ (m : Nat) (f : Nat → UInt8), Go.Proofs.Ytddmifbgbmjdaab.gsum (m + 1) f = f 0 ^^^ Go.Proofs.Ytddmifbgbmjdaab.gsum m (fun j => f (j + 1)) := fun m f => by
      induction m with
      | zero => simp only [Go.Proofs.Ytddmifbgbmjdaab.gsum, UInt8.zero_xor, UInt8.xor_zero]
      | succ m ih2 => rw [Go.Proofs.Ytddmifbgbmjdaab.gsum, ih2]; simp only [Go.Proofs.Ytddmifbgbmjdaab.gsum, UInt8.xor_assoc]
    rw [e1, geval_cons, ih, e2, ← gsum_mulr, UInt8.xor_comm]
    congr 1
    · show _ = gmul (a 0) 1
      rw [gmul_one]
    · exact gsum_congr _ _ _ fun j _ => by rw [gmul_assoc]; rfl
theorem ofNat_inj {i j : Nat} (hi : i < 256) (hj : j < 256) (h : UInt8.ofNat i = UInt8.ofNat j) : i = j := by
  have := congrArg UInt8.toNat h
  simp at this
  omega
theorem nodup_points (n : Nat) (f : Nat → Nat) (hf : ∀ i, i < n → f i < 256) (hinj : ∀ i j, i < n → j < n → f i = f j → i = j) : ((List.range n).map fun i => UInt8.ofNat (f i)).Nodup := by
  rw [List.nodup_iff_pairwise_ne, List.pairwise_map]
  refine List.Pairwise.imp_of_mem ?_ (List.nodup_iff_pairwise_ne.1 List.nodup_range)
  intro a b ha hb hne e
  exact hne (hinj a b (List.mem_range.1 ha) (List.mem_range.1 hb) (ofNat_inj (hf a (List.mem_range.1 ha)) (hf b (List.mem_range.1 hb)) e))
/-- Unlike rows of Vandermonde's matrix: nothing but 0 goes to 0. -/
theorem van_free (n : Nat) (f : Nat → Nat) (hf : ∀ i, i < n → f i < 256) (hinj : ∀ i j, i < n → j < n → f i = f j → i = j) (x : Nat → UInt8) (h : ∀ i, i < n → mv n (fun i => vanF (f i)) x i = 0) : ∀ k, k < n → x k = 0 := by
  intro k hk
  have := poly_zero _ (nodup_points n f hf hinj) (rowL n x) (by simp [rowL]) (fun p hp => by
    obtain ⟨i, hi, rfl⟩ := List.mem_map.1 hp
    rw [geval_row, ← h i (List.mem_range.1 hi)]
    unfold mv vanF
    exact gsum_congr _ _ _ fun j _ => gmul_comm _ _)
  exact this _ (List.mem_map.2 ⟨k, List.mem_range.2 hk, rfl⟩)
end Go.Proofs.Ytddmifbgbmjdaab
