/- Plain laws of matrices over the field with 256 elements. -/
import Derived.Test.YtddmifbgbmjdaabGfMath
set_option linter.unusedVariables false
set_option linter.unusedSimpArgs false
namespace Go.Proofs.Ytddmifbgbmjdaab

/-! ### sums -/
def gsum : Nat → (Nat → UInt8) → UInt8
  | 0, _ => 0
  | n + 1, f => gsum n f ^^^ f n
theorem gsum_congr (n : Nat) (f g : Nat → UInt8) (h : ∀ i, i < n → f i = g i) : gsum n f = gsum n g := by
  induction n with
  | zero => rfl
  | succ n ih => simp only [gsum]; rw [ih (fun i hi => h i (by omega)), h n (by omega)]
theorem xor4 (a b c d : UInt8) : (a ^^^ b) ^^^ (c ^^^ d) = (a ^^^ c) ^^^ (b ^^^ d) := by
  rw [UInt8.xor_assoc, UInt8.xor_assoc, ← UInt8.xor_assoc b c d, UInt8.xor_comm b c, UInt8.xor_assoc c b d]
theorem gsum_xor (n : Nat) (f g : Nat → UInt8) : gsum n (fun i => f i ^^^ g i) = gsum n f ^^^ gsum n g := by
  induction n with
  | zero => simp only [gsum]; rw [UInt8.xor_zero]
  | succ n ih => simp only [gsum]; rw [ih, xor4]
theorem gsum_mul (n : Nat) (a : UInt8) (f : Nat → UInt8) : gsum n (fun i => gmul a (f i)) = gmul a (gsum n f) := by
  induction n with
  | zero => simp only [gsum]; rw [gmul_zero]
  | succ n ih => simp only [gsum]; rw [ih, gmul_xor]
theorem gsum_mulr (n : Nat) (a : UInt8) (f : Nat → UInt8) : gsum n (fun i => gmul (f i) a) = gmul (gsum n f) a := by
  rw [gmul_comm, ← gsum_mul]
  exact gsum_congr _ _ _ fun i _ => gmul_comm _ _
theorem gsum_zero (n : Nat) (f : Nat → UInt8) (h : ∀ i, i < n → f i = 0) : gsum n f = 0 := by
  induction n with
  | zero => rfl
  | succ n ih => simp only [gsum]; rw [ih (fun i hi => h i (by omega)), h n (by omega)]; rfl
theorem gsum_one (n : Nat) (f : Nat → UInt8) (k : Nat) (hk : k < n) (h : ∀ i, i < n → i ≠ k → f i = 0) : gsum n f = f k := by
  induction n with
  | zero => omega
  | succ n ih =>
    simp only [gsum]
    by_cases e : k = n
    · subst e
      rw [gsum_zero k f (fun i hi => h i (by omega) (by omega)), UInt8.zero_xor]
    · rw [ih (by omega) (fun i hi => h i (by omega)), h n (by omega) (fun e' => e e'.symm), UInt8.xor_zero]
theorem gsum_swap (m n : Nat) (f : Nat → Nat → UInt8) : gsum m (fun i => gsum n (fun j => f i j)) = gsum n (fun j => gsum m (fun i => f i j)) := by
  induction m with
  | zero => simp only [gsum]; rw [gsum_zero n _ (fun _ _ => rfl)]
  | succ m ih => simp only [gsum]; rw [ih, ← gsum_xor]

/-! ### matrices as functions -/
def mulF (n : Nat) (A B : Nat → Nat → UInt8) : Nat → Nat → UInt8 := fun i k => gsum n fun j => gmul (A i j) (B j k)
def oneF : Nat → Nat → UInt8 := fun i k => if i = k then 1 else 0
theorem mulF_assoc (m n : Nat) (A B C : Nat → Nat → UInt8) (i k : Nat) : mulF n (mulF m A B) C i k = mulF m A (mulF n B C) i k := by
  unfold mulF
  rw [gsum_congr n _ (fun j => gsum m fun l => gmul (A i l) (gmul (B l j) (C j k))) (fun j _ => by
    rw [← gsum_mulr]; exact gsum_congr _ _ _ fun l _ => gmul_assoc _ _ _), gsum_swap]
  exact gsum_congr _ _ _ fun l _ => gsum_mul _ _ _
theorem mulF_one (n : Nat) (A : Nat → Nat → UInt8) (i k : Nat) (hk : k < n) : mulF n A oneF i k = A i k := by
  unfold mulF oneF
  rw [gsum_one n _ k hk (fun j _ hj => by rw [if_neg hj, gmul_zero]), if_pos rfl, gmul_one]
theorem one_mulF (n : Nat) (A : Nat → Nat → UInt8) (i k : Nat) (hi : i < n) : mulF n oneF A i k = A i k := by
  unfold mulF oneF
  rw [gsum_one n _ i hi (fun j _ hj => by rw [if_neg (fun e => hj e.symm), zero_gmul]), if_pos rfl, one_gmul]
theorem mulF_congr (n : Nat) (A B A' B' : Nat → Nat → UInt8) (i k : Nat) (hA : ∀ j, j < n → A i j = A' i j) (hB : ∀ j, j < n → B j k = B' j k) : mulF n A B i k = mulF n A' B' i k :=
  gsum_congr _ _ _ fun j hj => by rw [hA j hj, hB j hj]

/-! ### matrices as lists of rows -/
def rowL (c : Nat) (f : Nat → UInt8) : List UInt8 := (List.range c).map f
def tab (r c : Nat) (F : Nat → Nat → UInt8) : List (List UInt8) := (List.range r).map fun i => rowL c (F i)
def mget (M : List (List UInt8)) (i k : Nat) : UInt8 := (M.getD i []).getD k 0
theorem rowL_length (c : Nat) (f : Nat → UInt8) : (rowL c f).length = c := by simp [rowL]
theorem rowL_get (c : Nat) (f : Nat → UInt8) (k : Nat) (h : k < (rowL c f).length) : (rowL c f)[k] = f k := by simp [rowL]
theorem rowL_getD (c : Nat) (f : Nat → UInt8) (k : Nat) (h : k < c) : (rowL c f).getD k 0 = f k := by
  rw [List.getD_eq_getElem?_getD, List.getElem?_eq_getElem (by rw [rowL_length]; exact h), rowL_get]; rfl
theorem rowL_congr (c : Nat) (f g : Nat → UInt8) (h : ∀ k, k < c → f k = g k) : rowL c f = rowL c g :=
  List.map_congr_left fun k hk => h k (List.mem_range.1 hk)
theorem rowL_set (c : Nat) (f : Nat → UInt8) (i : Nat) (v : UInt8) : (rowL c f).set i v = rowL c (fun k => if k = i then v else f k) := by
  refine List.ext_getElem (by simp [rowL]) fun k h1 h2 => ?_
  rw [List.getElem_set, rowL_get, rowL_get]
  by_cases e : i = k
  · rw [if_pos e, if_pos e.symm]
  · rw [if_neg e, if_neg (fun e' => e e'.symm)]
theorem rowL_inj (c : Nat) (f g : Nat → UInt8) (h : rowL c f = rowL c g) (k : Nat) (hk : k < c) : f k = g k := by
  rw [← rowL_getD c f k hk, h, rowL_getD c g k hk]
theorem rowL_of (l : List UInt8) : l = rowL l.length (fun k => l.getD k 0) := by
  refine List.ext_getElem (by simp [rowL]) fun k h1 h2 => ?_
  rw [rowL_get]
  simp [List.getD_eq_getElem?_getD, List.getElem?_eq_getElem h1]
theorem rowL_succ (c : Nat) (f : Nat → UInt8) : rowL (c + 1) f = rowL c f ++ [f c] := by simp [rowL, List.range_succ]
theorem tab_length (r c : Nat) (F : Nat → Nat → UInt8) : (tab r c F).length = r := by simp [tab]
theorem tab_get (r c : Nat) (F : Nat → Nat → UInt8) (i : Nat) (h : i < (tab r c F).length) : (tab r c F)[i] = rowL c (F i) := by simp [tab]
theorem tab_getD (r c : Nat) (F : Nat → Nat → UInt8) (i : Nat) (h : i < r) : (tab r c F).getD i [] = rowL c (F i) := by
  rw [List.getD_eq_getElem?_getD, List.getElem?_eq_getElem (by rw [tab_length]; exact h), tab_get]; rfl
theorem mget_tab (r c : Nat) (F : Nat → Nat → UInt8) (i k : Nat) (hi : i < r) (hk : k < c) : mget (tab r c F) i k = F i k := by
  unfold mget; rw [tab_getD r c F i hi, rowL_getD c _ k hk]
theorem tab_congr (r c : Nat) (F G : Nat → Nat → UInt8) (h : ∀ i k, i < r → k < c → F i k = G i k) : tab r c F = tab r c G :=
  List.map_congr_left fun i hi => rowL_congr c _ _ fun k hk => h i k (List.mem_range.1 hi) hk
theorem tab_inj (r c : Nat) (F G : Nat → Nat → UInt8) (h : tab r c F = tab r c G) (i k : Nat) (hi : i < r) (hk : k < c) : F i k = G i k := by
  rw [← mget_tab r c F i k hi hk, h, mget_tab r c G i k hi hk]
theorem tab_succ (r c : Nat) (F : Nat → Nat → UInt8) : tab (r + 1) c F = tab r c F ++ [rowL c (F r)] := by simp [tab, List.range_succ]
/-- All rows are so wide. -/
def Rect (M : List (List UInt8)) (c : Nat) : Prop := ∀ x ∈ M, x.length = c
theorem Rect.tab {M : List (List UInt8)} {c : Nat} (h : Rect M c) : M = tab M.length c (mget M) := by
  refine List.ext_getElem (by simp [Go.Proofs.Ytddmifbgbmjdaab.tab]) fun i h1 h2 => ?_
  rw [tab_get]
  have e := rowL_of M[i]
  rw [h _ (List.getElem_mem h1)] at e
  rw [e]
  refine rowL_congr _ _ _ fun k hk => ?_
  unfold mget
  rw [List.getD_eq_getElem?_getD (l := M), List.getElem?_eq_getElem h1]
  rfl
theorem rect_tab (r c : Nat) (F : Nat → Nat → UInt8) : Rect (tab r c F) c := fun x hx => by
  obtain ⟨i, _, rfl⟩ := List.mem_map.1 hx
  exact rowL_length _ _
/-- There are rows, and all are of one width, not 0. -/
def Snd (M : List (List UInt8)) : Prop := 0 < M.length ∧ 0 < (M.headD []).length ∧ Rect M (M.headD []).length
instance (M : List (List UInt8)) : Decidable (Snd M) := by unfold Snd Rect; exact inferInstance
theorem snd_tab {r c : Nat} {F : Nat → Nat → UInt8} (hr : 0 < r) (hc : 0 < c) : Snd (tab r c F) := by
  have h0 : ((tab r c F).headD []).length = c := by
    cases r with
    | zero => omega
    | succ r => simp [tab, List.range_succ_eq_map, rowL]
  exact ⟨by rw [tab_length]; exact hr, by rw [h0]; exact hc, by rw [h0]; exact rect_tab _ _ _⟩

/-! ### elimination -/
/-- A matrix times a column. -/
def mv (n : Nat) (F : Nat → Nat → UInt8) (x : Nat → UInt8) (i : Nat) : UInt8 := gsum n fun j => gmul (F i j) (x j)
theorem mv_congr (n : Nat) (F G : Nat → Nat → UInt8) (x : Nat → UInt8) (i : Nat) (h : ∀ j, j < n → F i j = G i j) : mv n F x i = mv n G x i := gsum_congr _ _ _ fun j hj => by rw [h j hj]
/-- What the two matrices of the solver have to do with the first one. -/
def Link (n : Nat) (A m out : Nat → Nat → UInt8) : Prop := ∀ x y : Nat → UInt8, (∀ i, i < n → mv n A x i = y i) ↔ (∀ i, i < n → mv n m x i = mv n out y i)
theorem mv_one (n : Nat) (y : Nat → UInt8) (i : Nat) (h : i < n) : mv n oneF y i = y i := by
  unfold mv oneF
  rw [gsum_one n _ i h (fun j _ hj => by rw [if_neg (fun e => hj e.symm), zero_gmul]), if_pos rfl, one_gmul]
theorem Link.start (n : Nat) (A : Nat → Nat → UInt8) : Link n A A oneF := fun x y =>
  ⟨fun h i hi => by rw [mv_one n y i hi]; exact h i hi, fun h i hi => by rw [h i hi, mv_one n y i hi]⟩
def swapF (a b : Nat) (F : Nat → Nat → UInt8) : Nat → Nat → UInt8 := fun i => if i = a then F b else if i = b then F a else F i
def scaleF (a : Nat) (c : UInt8) (F : Nat → Nat → UInt8) : Nat → Nat → UInt8 := fun i => if i = a then fun k => gmul c (F a k) else F i
/-- To each other row comes the row a, so often as 'y' says. -/
def addF (a : Nat) (y : Nat → UInt8) (F : Nat → Nat → UInt8) : Nat → Nat → UInt8 := fun i => if i = a then F a else fun k => F i k ^^^ gmul (y i) (F a k)
theorem mv_swap (n a b : Nat) (F : Nat → Nat → UInt8) (x : Nat → UInt8) (i : Nat) : mv n (swapF a b F) x i = if i = a then mv n F x b else if i = b then mv n F x a else mv n F x i := by
  unfold mv swapF
  split
  · rfl
  · split <;> rfl
theorem mv_scale (n a : Nat) (c : UInt8) (F : Nat → Nat → UInt8) (x : Nat → UInt8) (i : Nat) : mv n (scaleF a c F) x i = if i = a then gmul c (mv n F x a) else mv n F x i := by
  unfold mv scaleF
  split
  · rw [← gsum_mul]; exact gsum_congr _ _ _ fun j _ => gmul_assoc _ _ _
  · rfl
theorem mv_add (n a : Nat) (y : Nat → UInt8) (F : Nat → Nat → UInt8) (x : Nat → UInt8) (i : Nat) : mv n (addF a y F) x i = if i = a then mv n F x a else mv n F x i ^^^ gmul (y i) (mv n F x a) := by
  unfold mv addF
  split
  · rfl
  · rw [← gsum_mul, ← gsum_xor]
    exact gsum_congr _ _ _ fun j _ => by rw [xor_gmul, gmul_assoc]
theorem xor_right {a b c : UInt8} (h : a ^^^ c = b ^^^ c) : a = b := by
  have := congrArg (· ^^^ c) h
  simpa [UInt8.xor_assoc] using this
theorem Link.swap {n : Nat} {A m out : Nat → Nat → UInt8} (h : Link n A m out) (a b : Nat) (ha : a < n) (hb : b < n) : Link n A (swapF a b m) (swapF a b out) := fun x y => by
  rw [h x y]
  constructor
  · intro e i hi
    rw [mv_swap, mv_swap]
    split
    · exact e b hb
    · split
      · exact e a ha
      · exact e i hi
  · intro e i hi
    by_cases e1 : i = a
    · subst e1
      have := e b hb
      rw [mv_swap, mv_swap] at this
      by_cases e2 : b = i
      · subst e2; simpa using this
      · simpa [e2] using this
    · by_cases e2 : i = b
      · subst e2
        have := e a ha
        rw [mv_swap, mv_swap] at this
        simpa using this
      · have := e i hi
        rw [mv_swap, mv_swap] at this
        simpa [e1, e2] using this
theorem Link.scale {n : Nat} {A m out : Nat → Nat → UInt8} (h : Link n A m out) (a : Nat) (c : UInt8) (ha : a < n) (hc : c ≠ 0) : Link n A (scaleF a c m) (scaleF a c out) := fun x y => by
  rw [h x y]
  constructor
  · intro e i hi
    rw [mv_scale, mv_scale, e a ha, e i hi]
  · intro e i hi
    have := e i hi
    rw [mv_scale, mv_scale] at this
    by_cases e1 : i = a
    · subst e1
      rw [if_pos rfl, if_pos rfl] at this
      exact gmul_cancel hc this
    · simpa [e1] using this
theorem Link.add {n : Nat} {A m out : Nat → Nat → UInt8} (h : Link n A m out) (a : Nat) (y : Nat → UInt8) (ha : a < n) : Link n A (addF a y m) (addF a y out) := fun x z => by
  rw [h x z]
  have key : (∀ i, i < n → mv n (addF a y m) x i = mv n (addF a y out) z i) → mv n m x a = mv n out z a := fun e => by
    have := e a ha
    rw [mv_add, mv_add, if_pos rfl, if_pos rfl] at this
    exact this
  constructor
  · intro e i hi
    rw [mv_add, mv_add, e a ha, e i hi]
  · intro e i hi
    have h0 := key e
    have := e i hi
    rw [mv_add, mv_add, h0] at this
    by_cases e1 : i = a
    · subst e1; exact h0
    · rw [if_neg e1, if_neg e1] at this
      exact xor_right this
theorem Link.congr {n : Nat} {A m out m' out' : Nat → Nat → UInt8} (h : Link n A m out) (hm : ∀ i k, i < n → k < n → m i k = m' i k) (ho : ∀ i k, i < n → k < n → out i k = out' i k) : Link n A m' out' := fun x y => by
  rw [h x y]
  constructor
  · intro e i hi
    rw [← mv_congr n m m' x i (fun j hj => hm i j hi hj), ← mv_congr n out out' y i (fun j hj => ho i j hi hj)]; exact e i hi
  · intro e i hi
    rw [mv_congr n m m' x i (fun j hj => hm i j hi hj), mv_congr n out out' y i (fun j hj => ho i j hi hj)]; exact e i hi
/-- The first columns are as they should be. -/
def Done (n c : Nat) (m : Nat → Nat → UInt8) : Prop := ∀ i k, i < n → k < c → m i k = if i = k then 1 else 0
theorem mv_unit (n : Nat) (F : Nat → Nat → UInt8) (k : Nat) (hk : k < n) (i : Nat) : mv n F (fun j => if j = k then 1 else 0) i = F i k := by
  unfold mv
  rw [gsum_one n _ k hk (fun j _ hj => by simp only [if_neg hj, gmul_zero])]
  simp only [if_true, gmul_one]
/-- At the end: an inverse, on both sides. -/
theorem Link.finish {n : Nat} {A m out : Nat → Nat → UInt8} (h : Link n A m out) (hd : Done n n m) : (∀ i k, i < n → k < n → mulF n out A i k = oneF i k) ∧ ∀ i k, i < n → k < n → mulF n A out i k = oneF i k := by
  have hm : ∀ (x : Nat → UInt8) i, i < n → mv n m x i = x i := fun x i hi => by
    rw [mv_congr n m oneF x i (fun j hj => by rw [hd i j hi hj]; rfl), mv_one n x i hi]
  have h2 : ∀ x y : Nat → UInt8, (∀ i, i < n → mv n A x i = y i) ↔ (∀ i, i < n → x i = mv n out y i) := fun x y => by
    rw [h x y]
    exact ⟨fun e i hi => by rw [← e i hi, hm x i hi], fun e i hi => by rw [hm x i hi, e i hi]⟩
  refine ⟨fun i k hi hk => ?_, fun i k hi hk => ?_⟩
  · have := (h2 (fun j => if j = k then 1 else 0) (fun i => A i k)).1 (fun i _ => mv_unit n A k hk i) i hi
    exact this.symm
  · have := (h2 (fun i => out i k) (fun j => if j = k then 1 else 0)).2 (fun i hi => (mv_unit n out k hk i).symm) i hi
    exact this
/-- No pivot: something that is not 0 goes to 0. -/
theorem Link.stuck {n c : Nat} {A m out : Nat → Nat → UInt8} (h : Link n A m out) (hc : c < n) (hd : Done n c m) (h0 : ∀ i, c ≤ i → i < n → m i c = 0) : ∃ x : Nat → UInt8, x c = 1 ∧ ∀ i, i < n → mv n A x i = 0 := by
  refine ⟨fun j => if j = c then 1 else if j < c then m j c else 0, by simp, ?_⟩
  rw [h _ (fun _ => 0)]
  intro i hi
  have hz : mv n out (fun _ => 0) i = 0 := gsum_zero _ _ fun j _ => gmul_zero _
  rw [hz]
  have e : mv n m (fun j => if j = c then 1 else if j < c then m j c else 0) i = gsum n (fun j => gmul (m i j) (if j = c then 1 else 0)) ^^^ gsum n (fun j => gmul (m i j) (if j < c then m j c else 0)) := by
    rw [← gsum_xor]
    refine gsum_congr _ _ _ fun j _ => ?_
    rw [← gmul_xor]
    congr 1
    by_cases e1 : j = c
    · subst e1; simp
    · by_cases e2 : j < c <;> simp [e1, e2]
  rw [e]
  have e1 : gsum n (fun j => gmul (m i j) (if j = c then 1 else 0)) = m i c := mv_unit n m c hc i
  rw [e1]
  by_cases hic : i < c
  · rw [gsum_one n _ i hi (fun j hj hne => by
      by_cases hjc : j < c
      · rw [hd i j hi hjc, if_neg (fun e => hne e.symm), zero_gmul]
      · rw [if_neg hjc, gmul_zero]), hd i i hi hic, if_pos rfl, one_gmul, if_pos hic, UInt8.xor_self]
  · rw [h0 i (by omega) hi, gsum_zero n _ (fun j hj => by
      by_cases hjc : j < c
      · rw [hd i j hi hjc, if_neg (by omega), zero_gmul]
      · rw [if_neg hjc, gmul_zero])]
    rfl
/-- A column comes to be as it should. -/
theorem Done.step {n c : Nat} {m : Nat → Nat → UInt8} (hd : Done n c m) (hc : c < n) (hp : m c c ≠ 0) : Done n (c + 1) (addF c (fun i => scaleF c (ginv (m c c)) m i c) (scaleF c (ginv (m c c)) m)) := by
  intro i k hi hk
  have hcc : ∀ k, scaleF c (ginv (m c c)) m c k = gmul (ginv (m c c)) (m c k) := fun k => by simp [scaleF]
  have hii : ∀ i k, i ≠ c → scaleF c (ginv (m c c)) m i k = m i k := fun i k h => by simp [scaleF, h]
  by_cases e : i = c
  · subst e
    show (addF i _ (scaleF i (ginv (m i i)) m)) i k = _
    unfold addF
    rw [if_pos rfl, hcc]
    by_cases ek : k = i
    · subst ek; rw [if_pos rfl, gmul_comm, gmul_inv _ hp]
    · rw [hd i k hi (by omega), if_neg (fun e => ek e.symm), gmul_zero]
  · unfold addF
    rw [if_neg e]
    show scaleF c (ginv (m c c)) m i k ^^^ gmul (scaleF c (ginv (m c c)) m i c) (scaleF c (ginv (m c c)) m c k) = _
    rw [hii i k e, hii i c e, hcc]
    by_cases ek : k = c
    · subst ek
      rw [gmul_comm (ginv _), gmul_inv _ hp, gmul_one, UInt8.xor_self, if_neg e]
    · rw [hd c k hc (by omega), if_neg (fun e => ek e.symm), gmul_zero, gmul_zero, UInt8.xor_zero]
      exact hd i k hi (by omega)
theorem Done.swap {n c p : Nat} {m : Nat → Nat → UInt8} (hd : Done n c m) (hc : c ≤ p) (hp : p < n) : Done n c (swapF c p m) := by
  intro i k hi hk
  unfold swapF
  by_cases e1 : i = c
  · subst e1
    rw [if_pos rfl, hd p k hp hk, if_neg (by omega), if_neg (by omega)]
  · rw [if_neg e1]
    by_cases e2 : i = p
    · subst e2
      rw [if_pos rfl, hd c k (by omega) hk, if_neg (by omega), if_neg (by omega)]
    · rw [if_neg e2]; exact hd i k hi hk
end Go.Proofs.Ytddmifbgbmjdaab
