/- Matrices in memory: what is read, and rows of one's own. -/
import Derived.Test.YtddmifbgbmjdaabMem
import Derived.Test.YtddmifbgbmjdaabMatMath
set_option linter.unusedVariables false
set_option linter.unusedSimpArgs false
namespace Go.Proofs.Ytddmifbgbmjdaab
open Go.RowKit

/-- A slice of slices of bytes that reads as these rows. -/
def MatR (P : Nat → Prop) (w : World) (v : Value) (M : List (List UInt8)) : Prop :=
  ∃ rs : List Value, rs.length = M.length ∧ Sl id P w v rs ∧ ∀ i (h : i < rs.length) (h2 : i < M.length), Bytes P w rs[i] M[i]
section
variable {P Q : Nat → Prop} {w w' : World} {v : Value} {M : List (List UInt8)}
theorem MatR.fr (h : MatR P w v M) (hf : Fr Q w w') (hq : ∀ k, P k → Q k) : MatR P w' v M := by
  obtain ⟨rs, h1, h2, h3⟩ := h
  exact ⟨rs, h1, h2.fr hf hq, fun i a b => (h3 i a b).fr hf hq⟩
theorem MatR.mono (h : MatR P w v M) (hq : ∀ k, P k → Q k) : MatR Q w v M := by
  obtain ⟨rs, h1, h2, h3⟩ := h
  exact ⟨rs, h1, h2.mono hq, fun i a b => (h3 i a b).mono hq⟩
theorem MatR.below (h : MatR P w v M) (hb : Below w.heap.size w w') : MatR P w' v M := h.fr (Fr.of_below hb P) fun _ hk => hk
theorem MatR.there (h : MatR P w v M) : MatR (fun k => P k ∧ k < w.heap.size) w v M := by
  obtain ⟨rs, h1, h2, h3⟩ := h
  exact ⟨rs, h1, h2.there, fun i a b => (h3 i a b).there⟩
theorem MatR.shape (h : MatR P w v M) : ∃ A c, v = .slice A M.length c ∧ M.length ≤ c ∧ c ≤ 9223372036854775807 := by
  obtain ⟨rs, h1, ⟨A, c, rfl, hl, _⟩, _⟩ := h
  exact ⟨A, c, by rw [h1], by omega⟩
theorem MatR.at_ {A : Option Addr} {n c : Nat} (h : MatR P w (.slice A n c) M) (k : Nat) (hk : k < M.length) : ∃ ad rv, A = some ad ∧ P ad.block ∧ w.cell? (ad.add k) = some rv ∧ Bytes P w rv M[k] := by
  obtain ⟨rs, h1, ⟨A', c', e, hl, hr⟩, h3⟩ := h
  simp only [Value.slice.injEq] at e
  obtain ⟨rfl, -, -⟩ := e
  obtain ⟨ad, e, hp, hc⟩ := Rd.at2 hr k (by omega)
  exact ⟨ad, rs[k]'(by omega), e, hp, hc, h3 k _ _⟩
theorem MatR.nil (P : Nat → Prop) (w : World) : MatR P w (.slice none 0 0) [] := ⟨[], rfl, Sl.nil _ _ _, fun i a b => by simp at b⟩
theorem MatR.cut {A : Option Addr} {n c : Nat} (h : MatR P w (.slice A n c) M) (k : Nat) (hk : k ≤ M.length) : MatR P w (.slice A k c) (M.take k) := by
  obtain ⟨rs, h1, h2, h3⟩ := h
  refine ⟨rs.take k, by simp [h1], h2.cut k (by omega), fun i a b => ?_⟩
  simp only [List.getElem_take]
  exact h3 i _ _
theorem MatR.rest {A : Option Addr} {n c : Nat} (h : MatR P w (.slice A n c) M) (k : Nat) (hk : k ≤ M.length) : MatR P w (.slice (if c = k then A else A.map (·.add k)) (n - k) (c - k)) (M.drop k) := by
  obtain ⟨rs, h1, h2, h3⟩ := h
  refine ⟨rs.drop k, by simp [h1], h2.rest k (by omega), fun i a b => ?_⟩
  simp only [List.getElem_drop]
  exact h3 _ _ _
end

/-! ### rows of one's own -/
theorem own_apart {α β : Type} {f : α → Value} {f' : β → Value} {w : World} {b b' : Nat} {e e' : TypeId} {v v' : Value} {l : List α} {l' : List β} (h : Own f w b e v l) (h' : Own f' w b' e' v' l') (hne : e ≠ e') (k : Nat) (hk : v.ownBlock = some k) : v'.ownBlock ≠ some k := by
  intro hk'
  unfold Own at h h'
  rcases h.2 with ⟨rfl, _⟩ | ⟨g, cap, cur, rfl, _, hh, _⟩
  · simp [Value.ownBlock] at hk
  · rcases h'.2 with ⟨rfl, _⟩ | ⟨g', cap', cur', rfl, _, hh', _⟩
    · simp [Value.ownBlock] at hk'
    · simp only [Value.ownBlock, Option.some.injEq] at hk hk'
      subst hk hk'
      rw [hh] at hh'
      simp only [Option.some.injEq, Obj.cells.injEq] at hh'
      exact hne hh'.2.1
structure Fam {I : Type} (w : World) (base : Nat) (S : I → Prop) (rv : I → Value) (L : I → List UInt8) : Prop where
  row : ∀ i, S i → OwnB w base 5 (rv i) (L i)
  apart : ∀ i j, S i → S j → i ≠ j → ∀ b, (rv i).ownBlock = some b → (rv j).ownBlock ≠ some b
namespace Fam
variable {I : Type} {w w' : World} {base : Nat} {S : I → Prop} {rv : I → Value} {L : I → List UInt8}
theorem keep (h : Fam w base S rv L) (hf : Fr (fun k => ∃ i, S i ∧ (rv i).ownBlock = some k) w w') : Fam w' base S rv L :=
  ⟨fun i hi => (h.row i hi).keep (hf.mono fun k _ hk => ⟨i, hi, hk⟩), h.apart⟩
theorem upd [DecidableEq I] (h : Fam w base S rv L) (i : I) (hi : S i) (l : List UInt8) (ho : OwnB w' base 5 (rv i) l) (hf : Fr (fun k => some k ≠ (rv i).ownBlock) w w') : Fam w' base S rv (fun j => if j = i then l else L j) :=
  ⟨fun j hj => by
    by_cases e : j = i
    · subst e; simpa using ho
    · simp only [e, if_false]
      exact (h.row j hj).keep (hf.mono fun k _ hk e2 => h.apart j i hj hi e k hk e2.symm), h.apart⟩
theorem congr (h : Fam w base S rv L) (L' : I → List UInt8) (e : ∀ i, S i → L i = L' i) : Fam w base S rv L' := ⟨fun i hi => by rw [← e i hi]; exact h.row i hi, h.apart⟩
theorem sub (h : Fam w base S rv L) {T : I → Prop} (ht : ∀ i, T i → S i) : Fam w base T rv L := ⟨fun i hi => h.row i (ht i hi), fun i j hi hj => h.apart i j (ht i hi) (ht j hj)⟩
theorem pull {J : Type} (h : Fam w base S rv L) (s : J → I) (T : J → Prop) (ht : ∀ j, T j → S (s j)) (hs : ∀ i j, T i → T j → i ≠ j → s i ≠ s j) : Fam w base T (fun j => rv (s j)) (fun j => L (s j)) :=
  ⟨fun j hj => h.row (s j) (ht j hj), fun i j hi hj hne => h.apart (s i) (s j) (ht i hi) (ht j hj) (hs i j hi hj hne)⟩
theorem lower (h : Fam w base S rv L) {b : Nat} (hb : b ≤ base) : Fam w b S rv L :=
  ⟨fun i hi => by
    have := h.row i hi
    unfold OwnB Own at *
    refine ⟨this.1, ?_⟩
    rcases this.2 with hn | ⟨g, cap, cur, e, hb1, r⟩
    · exact .inl hn
    · exact .inr ⟨g, cap, cur, e, Nat.le_trans hb hb1, r⟩, h.apart⟩
theorem lt (h : Fam w base S rv L) (i : I) (hi : S i) (k : Nat) (hk : (rv i).ownBlock = some k) : base ≤ k ∧ k < w.heap.size := (h.row i hi).base_le k hk
/-- All blocks are there from the base on: what has been left below it counts for nothing. -/
theorem keep_from (h : Fam w base S rv L) (hf : Fr (fun k => base ≤ k) w w') : Fam w' base S rv L := h.keep (hf.mono fun k _ ⟨i, hi, hk⟩ => (h.lt i hi k hk).1)
theorem keep_below (h : Fam w base S rv L) (hb : Below w.heap.size w w') : Fam w' base S rv L := h.keep (Fr.of_below hb _)
end Fam
/-- A matrix of one's own. -/
structure OwnMat (w : World) (base : Nat) (v : Value) (n : Nat) (rv : Nat → Value) (L : Nat → List UInt8) : Prop where
  top : Own id w base 27 v ((List.range n).map rv)
  rows : Fam w base (· < n) rv L
namespace OwnMat
variable {w w' : World} {base : Nat} {v : Value} {n : Nat} {rv : Nat → Value} {L : Nat → List UInt8}
theorem reads (h : OwnMat w base v n rv L) : MatR (base ≤ ·) w v ((List.range n).map L) := by
  refine ⟨(List.range n).map rv, by simp, h.top.reads.mono fun k hk => (h.top.base_le k hk).1, fun i h1 h2 => ?_⟩
  have hi : i < n := by simpa using h1
  have e1 : ((List.range n).map rv)[i] = rv i := by simp
  have e2 : ((List.range n).map L)[i] = L i := by simp
  rw [e1, e2]
  exact (h.rows.row i hi).reads.mono fun k hk => (h.rows.lt i hi k hk).1
theorem keep_below (h : OwnMat w base v n rv L) (hb : Below w.heap.size w w') : OwnMat w' base v n rv L := ⟨h.top.keep (Fr.of_below hb _), h.rows.keep_below hb⟩
theorem congr (h : OwnMat w base v n rv L) (L' : Nat → List UInt8) (e : ∀ i, i < n → L i = L' i) : OwnMat w base v n rv L' := ⟨h.top, h.rows.congr L' e⟩
/-- One row is another one now. -/
theorem upd (h : OwnMat w base v n rv L) (i : Nat) (hi : i < n) (l : List UInt8) (ho : OwnB w' base 5 (rv i) l) (hf : Fr (fun k => some k ≠ (rv i).ownBlock) w w') : OwnMat w' base v n rv (fun j => if j = i then l else L j) :=
  ⟨h.top.keep (hf.mono fun k _ hk e => own_apart h.top (h.rows.row i hi) (by decide) k hk e.symm), h.rows.upd i hi l ho hf⟩
end OwnMat
end Go.Proofs.Ytddmifbgbmjdaab
