/- Words on memory: what a slice reads as, what has been left alone, rows of the call's own. -/
import Derived.Test.YtddmifbgbmjdaabBase
import Derived.Maps.AppendAt
import Derived.Deep.AppendLies
import Derived.Lib.SlBytesConst
set_option linter.unusedVariables false
set_option linter.unusedSimpArgs false
namespace Go.Proofs.Ytddmifbgbmjdaab
open Go.RowKit

theorem ofInt_small (a : Nat) (ha : a < 9223372036854775808) : (BitVec.ofInt 64 (a : Int)).toNat = a := by
  rw [BitVec.ofInt_natCast, BitVec.toNat_ofNat]; exact Nat.mod_eq_of_lt (by omega)
theorem i64_xor_small (a b : Nat) (ha : a < 9223372036854775808) (hb : b < 9223372036854775808) : bits .xor .i64 (a : Int) (b : Int) = ((a ^^^ b : Nat) : Int) := by
  have hx : a ^^^ b < 2 ^ 63 := Nat.xor_lt_two_pow (by omega) (by omega)
  show IntKind.i64.wrap ((BitVec.ofInt 64 (a : Int) ^^^ BitVec.ofInt 64 (b : Int)).toNat : Int) = _
  rw [BitVec.toNat_xor, ofInt_small a ha, ofInt_small b hb, IntKind.wrap_i64]
  omega
theorem i64_and_small (a b : Nat) (ha : a < 9223372036854775808) (hb : b < 9223372036854775808) : bits .and .i64 (a : Int) (b : Int) = ((a &&& b : Nat) : Int) := by
  have hx : a &&& b < 2 ^ 63 := Nat.and_lt_two_pow _ (by omega)
  show IntKind.i64.wrap ((BitVec.ofInt 64 (a : Int) &&& BitVec.ofInt 64 (b : Int)).toNat : Int) = _
  rw [BitVec.toNat_and, ofInt_small a ha, ofInt_small b hb, IntKind.wrap_i64]
  omega

/-! ### what has been left alone -/
/-- The blocks of P that were there are as they were; no block has gone. -/
structure Fr (P : Nat → Prop) (w w' : World) : Prop where
  os : w'.os = w.os
  tape : w'.tape = w.tape
  output : w'.output = w.output
  size : w.heap.size ≤ w'.heap.size
  block : ∀ k, k < w.heap.size → P k → w'.heap[k]? = w.heap[k]?

namespace Fr
variable {P Q : Nat → Prop} {a w w' : World}
theorem refl (P : Nat → Prop) (w : World) : Fr P w w := ⟨rfl, rfl, rfl, Nat.le_refl _, fun _ _ _ => rfl⟩
theorem trans (h : Fr P a w) (k : Fr P w w') : Fr P a w' :=
  ⟨k.os.trans h.os, k.tape.trans h.tape, k.output.trans h.output, Nat.le_trans h.size k.size, fun i hi hp => (k.block i (Nat.lt_of_lt_of_le hi h.size) hp).trans (h.block i hi hp)⟩
theorem mono (h : Fr P w w') (hq : ∀ k, k < w.heap.size → Q k → P k) : Fr Q w w' := ⟨h.os, h.tape, h.output, h.size, fun k hk hp => h.block k hk (hq k hk hp)⟩
theorem drew (h : Fr P a w) : Fr P a w.drew := ⟨h.os, h.tape, h.output, h.size, h.block⟩
theorem drewN (h : Fr P a w) (n : Nat) : Fr P a (w.drewN n) := ⟨h.os, h.tape, h.output, h.size, h.block⟩
theorem alloc (h : Fr P a w) (o : Obj) : Fr P a (w.alloc o) := h.trans ⟨rfl, rfl, rfl, by simp, fun k hk _ => heap_alloc_old w o hk⟩
theorem setCell (h : Fr P a w) {p : Addr} (hp : p.block < a.heap.size → ¬ P p.block) (u : Value) : Fr P a (w.setCell p u) :=
  ⟨h.os, h.tape, h.output, by simpa [World.setCell] using h.size, fun k hk hpk => (Below.heap_setCell w p u k (by rintro rfl; exact hp hk hpk)).trans (h.block k hk hpk)⟩
theorem of_below (h : Below w.heap.size w w') (P : Nat → Prop) : Fr P w w' := ⟨h.os, h.tape, h.output, h.size, fun k hk _ => h.block k hk⟩
theorem of_grown {row : Option Nat} (h : w.grownBy w' row) : Fr (fun k => some k ≠ row) w w' := ⟨h.os, h.tape, h.output, h.size, fun k hk hp => h.block k hk hp⟩
theorem below (h : Fr P w w') (hp : ∀ k, k < w.heap.size → P k) : Below w.heap.size w w' := ⟨h.os, h.tape, h.output, h.size, fun k hk => h.block k hk (hp k hk)⟩
theorem after {w2 : World} (hb : Below a.heap.size a w) (h : Fr P w w2) (hp : ∀ k, k < a.heap.size → P k) : Below a.heap.size a w2 :=
  ⟨h.os.trans hb.os, h.tape.trans hb.tape, h.output.trans hb.output, Nat.le_trans hb.size h.size, fun k hk => (h.block k (Nat.lt_of_lt_of_le hk hb.size) (hp k hk)).trans (hb.block k hk)⟩
theorem cell (h : Fr P w w') {p : Addr} {v : Value} (hp : P p.block) (hc : w.cell? p = some v) : w'.cell? p = some v :=
  (World.cell?_of_block (h.block p.block (World.block_lt_of_cell? w p hc) hp)).trans hc
end Fr

/-! ### what is read -/
/-- The cells behind A are these, in blocks of P. -/
def Rd (P : Nat → Prop) (w : World) (A : Option Addr) (cs : List Value) : Prop :=
  ∀ j u, cs[j]? = some u → ∃ ad, A = some ad ∧ P ad.block ∧ w.cell? (ad.add j) = some u

theorem add_block (a : Addr) (n : Nat) : (a.add n).block = a.block := by unfold Addr.add; split <;> rfl
theorem add_add (a : Addr) (i j : Nat) : (a.add i).add j = a.add (i + j) := by
  unfold Addr.add
  by_cases hi : i = 0 <;> by_cases hj : j = 0 <;> simp [hi, hj, Nat.add_assoc]
theorem add_zero (a : Addr) : a.add 0 = a := by unfold Addr.add; simp
theorem add_flat (g j : Nat) : (⟨g, 0, none⟩ : Addr).add j = ⟨g, j, none⟩ := by unfold Addr.add; split <;> simp_all

section
variable {P Q : Nat → Prop} {w w' : World} {A : Option Addr} {cs : List Value}
theorem Rd.fr (h : Rd P w A cs) (hf : Fr Q w w') (hq : ∀ k, P k → Q k) : Rd P w' A cs := fun j u hu => by
  obtain ⟨ad, e, hp, hc⟩ := h j u hu
  exact ⟨ad, e, hp, hf.cell (by rw [add_block]; exact hq _ hp) hc⟩
theorem Rd.mono (h : Rd P w A cs) (hq : ∀ k, P k → Q k) : Rd Q w A cs := fun j u hu => by
  obtain ⟨ad, e, hp, hc⟩ := h j u hu
  exact ⟨ad, e, hq _ hp, hc⟩
theorem Rd.nil (P : Nat → Prop) (w : World) (A : Option Addr) : Rd P w A [] := fun j u hu => by simp at hu
theorem Rd.at_ (h : Rd P w A cs) (k : Nat) (hk : k < cs.length) : ∃ ad, A = some ad ∧ P ad.block ∧ w.cell? (ad.add k) = some cs[k] := h k _ (List.getElem?_eq_getElem hk)
theorem Rd.row (w : World) (g : Nat) (cur : Array Value) (e : TypeId) (fr : Nat × Nat) (hg : w.heap[g]? = some (.cells cur e fr)) (hp : P g) (off : Nat) (cs : List Value) (hcs : ∀ j u, cs[j]? = some u → cur[off + j]? = some u) :
    Rd P w (some ⟨g, off, none⟩) cs := fun j u hu => by
  refine ⟨_, rfl, hp, ?_⟩
  have : (⟨g, off, none⟩ : Addr).add j = ⟨g, off + j, none⟩ := by unfold Addr.add; split <;> simp_all
  rw [this]
  simp only [World.cell?, hg]
  exact hcs j u hu
end

/-- The slice value reads as this list, each element in one cell, in blocks of P. -/
def Sl {α : Type} (f : α → Value) (P : Nat → Prop) (w : World) (v : Value) (l : List α) : Prop :=
  ∃ A c, v = .slice A l.length c ∧ (l.length ≤ c ∧ c ≤ 9223372036854775807) ∧ Rd P w A (l.map f)
/-- The slice value reads as these bytes. -/
abbrev Bytes (P : Nat → Prop) (w : World) (v : Value) (l : List UInt8) : Prop := Sl u8v P w v l
def i64v (z : Int) : Value := .int .i64 z
abbrev Ints (P : Nat → Prop) (w : World) (v : Value) (l : List Int) : Prop := Sl i64v P w v l
section
variable {α : Type} {f : α → Value} {P Q : Nat → Prop} {w w' : World} {v : Value} {l : List α}
theorem Sl.fr (h : Sl f P w v l) (hf : Fr Q w w') (hq : ∀ k, P k → Q k) : Sl f P w' v l := by
  obtain ⟨A, c, rfl, hl, hc⟩ := h
  exact ⟨A, c, rfl, hl, hc.fr hf hq⟩
theorem Sl.mono (h : Sl f P w v l) (hq : ∀ k, P k → Q k) : Sl f Q w v l := by
  obtain ⟨A, c, rfl, hl, hc⟩ := h
  exact ⟨A, c, rfl, hl, hc.mono hq⟩
theorem Sl.cut {A : Option Addr} {n c : Nat} (h : Sl f P w (.slice A n c) l) (k : Nat) (hk : k ≤ l.length) : Sl f P w (.slice A k c) (l.take k) := by
  obtain ⟨A', c2, e, hl, hr⟩ := h
  simp only [Value.slice.injEq] at e
  obtain ⟨rfl, rfl, rfl⟩ := e
  refine ⟨A, c, by simp [Nat.min_eq_left hk], by simp; omega, fun j u hu => ?_⟩
  rw [List.map_take, List.getElem?_take] at hu
  split at hu
  · exact hr j u hu
  · cases hu
/-- The rest behind a place, as the walk spells it. -/
theorem Sl.rest {A : Option Addr} {n c : Nat} (h : Sl f P w (.slice A n c) l) (k : Nat) (hk : k ≤ l.length) : Sl f P w (.slice (if c = k then A else A.map (·.add k)) (n - k) (c - k)) (l.drop k) := by
  obtain ⟨A', c2, e, hl, hr⟩ := h
  simp only [Value.slice.injEq] at e
  obtain ⟨rfl, rfl, rfl⟩ := e
  refine ⟨if c = k then A else A.map (·.add k), c - k, by simp, by simp; omega, fun j u hu => ?_⟩
  rw [List.map_drop, List.getElem?_drop] at hu
  obtain ⟨ad, e, hp, hc⟩ := hr _ u hu
  subst e
  have hlt : k + j < l.length := by
    rcases Nat.lt_or_ge (k + j) l.length with h | h
    · exact h
    · rw [List.getElem?_eq_none (by simpa using h)] at hu; cases hu
  rw [if_neg (by omega)]
  exact ⟨ad.add k, rfl, by rw [add_block]; exact hp, by rw [add_add]; exact hc⟩
theorem Sl.below (h : Sl f P w v l) (hb : Below w.heap.size w w') : Sl f P w' v l := h.fr (Fr.of_below hb P) fun _ hk => hk
/-- All that is read lies in blocks that are there. -/
theorem Sl.there (h : Sl f P w v l) : Sl f (fun k => P k ∧ k < w.heap.size) w v l := by
  obtain ⟨A, c, rfl, hl, hc⟩ := h
  refine ⟨A, c, rfl, hl, fun j u hu => ?_⟩
  obtain ⟨ad, e, hp, hc⟩ := hc j u hu
  have := World.block_lt_of_cell? w _ hc
  rw [add_block] at this
  exact ⟨ad, e, ⟨hp, this⟩, hc⟩
theorem Rd.at2 {A : Option Addr} (h : Rd P w A (l.map f)) (k : Nat) (hk : k < l.length) : ∃ ad, A = some ad ∧ P ad.block ∧ w.cell? (ad.add k) = some (f l[k]) := by
  obtain ⟨ad, e, hp, hc⟩ := h.at_ k (by simpa using hk)
  exact ⟨ad, e, hp, by simpa using hc⟩
theorem rd_at {l : List UInt8} {A : Option Addr} (h : Rd P w A (l.map u8v)) (k : Nat) (hk : k < l.length) : ∃ ad, A = some ad ∧ P ad.block ∧ w.cell? (ad.add k) = some (.int .u8 (l[k].toNat : Int)) := Rd.at2 h k hk
theorem rd_int {l : List Int} {A : Option Addr} (h : Rd P w A (l.map i64v)) (k : Nat) (hk : k < l.length) : ∃ ad, A = some ad ∧ P ad.block ∧ w.cell? (ad.add k) = some (.int .i64 l[k]) := Rd.at2 h k hk
theorem Sl.nil (f : α → Value) (P : Nat → Prop) (w : World) : Sl f P w (.slice none 0 0) [] := ⟨none, 0, rfl, by simp, Rd.nil _ _ _⟩
theorem Bytes.nil (P : Nat → Prop) (w : World) : Bytes P w (.slice none 0 0) [] := Sl.nil _ _ _
end

/-- A literal's row, with a mark or without, said so that it fits what the walk shows. -/
theorem sl_lit {α : Type} (f : α → Value) (w : World) (e : TypeId) (fr : Nat × Nat) (l : List α) (g n c : Nat) (cs : Array Value) (hg : g = w.heap.size) (hn : n = l.length) (hcs : cs = (l.map f).toArray) (hl : l.length ≤ c ∧ c ≤ 9223372036854775807) :
    Sl f (fun k => w.heap.size ≤ k) (w.alloc (.cells cs e fr)) (.slice (some ⟨g, 0, none⟩) n c) l := by
  subst hg hn hcs
  exact ⟨_, c, rfl, hl, Rd.row _ _ _ e fr (heap_alloc_new w _) (Nat.le_refl _) 0 _ fun j u hu => by simpa using hu⟩
theorem bytes_lit (w : World) (e : TypeId) (fr : Nat × Nat) (l : List UInt8) (g n c : Nat) (cs : Array Value) (hg : g = w.heap.size) (hn : n = l.length) (hcs : cs = (l.map u8v).toArray) (hl : l.length ≤ c ∧ c ≤ 9223372036854775807) :
    Bytes (fun k => w.heap.size ≤ k) (w.alloc (.cells cs e fr)) (.slice (some ⟨g, 0, none⟩) n c) l := sl_lit u8v w e fr l g n c cs hg hn hcs hl

/-- '[]byte("text")': laid ahead of a walk: 'have kc := @conv_bytes prog T E uT uE'. -/
theorem conv_bytes (P : Program) (t e : TypeId) (ht : P.underlying t = some (.slice e)) (he : P.underlying e = some (.int .u8)) (w : World) (C : Array Value) (g n c : Nat) (hg : g = w.heap.size) :
    (convert t t (.slice (some ⟨g, 0, none⟩) n c)).run P (w.alloc (.cells C e)) = .ok (.slice (some ⟨g, 0, none⟩) n c) (w.alloc (.cells C e (C.size, C.size + 1))) := by
  subst hg
  exact Lib.run_convert_bytes_const w t e C n c ht he

/-! ### a row of the call's own, each element in one cell -/
def Own {α : Type} (f : α → Value) (w : World) (base : Nat) (e : TypeId) (v : Value) (l : List α) : Prop := w.ownsRow base e 1 v l.length (l.map f)
abbrev OwnB (w : World) (base : Nat) (e : TypeId) (v : Value) (l : List UInt8) : Prop := Own u8v w base e v l
abbrev OwnI (w : World) (base : Nat) (e : TypeId) (v : Value) (l : List Int) : Prop := Own i64v w base e v l
section
variable {α : Type} {f : α → Value} {w w' : World} {base : Nat} {e : TypeId} {v : Value} {l : List α}
theorem Own.reads (h : Own f w base e v l) : Sl f (fun k => v.ownBlock = some k) w v l := by
  unfold Own at h
  rcases h.2 with ⟨rfl, hn⟩ | ⟨g, cap, cur, rfl, hb, hh, hnc, hcm, hcs, ht⟩
  · have : l = [] := List.eq_nil_of_length_eq_zero hn
    subst this
    exact Sl.nil _ _ _
  · refine ⟨_, cap, rfl, ⟨hnc, by simp only [maxLen] at hcm; omega⟩, ?_⟩
    show Rd (fun k => some g = some k) w _ _
    refine Rd.row (P := fun k => some g = some k) w g cur e (0, 0) hh rfl 0 _ fun j u hu => ?_
    rw [← ht] at hu
    rw [List.getElem?_take] at hu
    split at hu
    · simpa using hu
    · cases hu
theorem Own.shape (h : Own f w base e v l) : ∃ A n c, v = .slice A n c := by
  obtain ⟨A, c, rfl, _⟩ := h.reads
  exact ⟨A, _, c, rfl⟩
theorem Own.base_le (h : Own f w base e v l) : ∀ k, v.ownBlock = some k → base ≤ k ∧ k < w.heap.size := World.ownsRow.lt h
theorem Own.keep (h : Own f w base e v l) (hf : Fr (fun k => v.ownBlock = some k) w w') : Own f w' base e v l := by
  unfold Own at *
  refine ⟨h.1, ?_⟩
  rcases h.2 with hn | ⟨g, cap, cur, rfl, hb, hh, r⟩
  · exact .inl hn
  · exact .inr ⟨g, cap, cur, rfl, hb, by rw [hf.block g (Array.getElem?_eq_some_iff.1 hh).1 rfl]; exact hh, r⟩
theorem Own.form (h : Own f w base e v l) (hl : 0 < l.length) : ∃ g cap, v = .slice (some ⟨g, 0, none⟩) l.length cap ∧ base ≤ g ∧ g < w.heap.size ∧ l.length ≤ cap := by
  unfold Own at h
  rcases h.2 with ⟨_, hn⟩ | ⟨g, cap, cur, rfl, hb, hh, hnc, _⟩
  · omega
  · exact ⟨g, cap, rfl, hb, (Array.getElem?_eq_some_iff.1 hh).1, hnc⟩
theorem Own.len {g n cap : Nat} (h : Own f w base e (.slice (some ⟨g, 0, none⟩) n cap) l) : n = l.length := by
  unfold Own at h
  rcases h.2 with ⟨h', _⟩ | ⟨g', cap', cur, h', _⟩
  · simp at h'
  · simp only [Value.slice.injEq] at h'; omega
theorem Own.cell {g n cap : Nat} (h : Own f w base e (.slice (some ⟨g, 0, none⟩) n cap) l) (k : Nat) (hk : k < l.length) : w.cell? ⟨g, k, none⟩ = some (f l[k]) ∧ w.frozen? ⟨g, k, none⟩ = false := by
  have hn := h.len
  subst hn
  unfold Own at h
  refine ⟨?_, h.frozenAt k⟩
  rw [h.cellAt k (by omega)]
  simp [hk]
theorem OwnB.cellD {l : List UInt8} {g n cap : Nat} (h : OwnB w base e (.slice (some ⟨g, 0, none⟩) n cap) l) (k : Nat) (hk : k < l.length) : ∃ x, l.getD k 0 = x ∧ w.cell? ⟨g, k, none⟩ = some (.int .u8 (x.toNat : Int)) ∧ w.frozen? ⟨g, k, none⟩ = false := by
  obtain ⟨h1, h2⟩ := Own.cell h k hk
  exact ⟨l[k], by simp [List.getD_eq_getElem?_getD, List.getElem?_eq_getElem hk], h1, h2⟩
theorem Own.stored {g n cap : Nat} (h : Own f w base e (.slice (some ⟨g, 0, none⟩) n cap) l) (k : Nat) (b : α) :
    Own f (w.setCell ⟨g, k, none⟩ (f b)) base e (.slice (some ⟨g, 0, none⟩) n cap) (l.set k b) := by
  have hn := h.len
  subst hn
  unfold Own at *
  have hs := (h.stored k (f b)).1
  rw [List.length_set, List.map_set]
  exact hs
theorem OwnB.stored {l : List UInt8} {g n cap : Nat} (h : OwnB w base e (.slice (some ⟨g, 0, none⟩) n cap) l) (k : Nat) (b : UInt8) :
    OwnB (w.setCell ⟨g, k, none⟩ (.int .u8 (b.toNat : Int))) base e (.slice (some ⟨g, 0, none⟩) n cap) (l.set k b) := Own.stored h k b
theorem OwnB.form {l : List UInt8} (h : OwnB w base e v l) (hl : 0 < l.length) : ∃ g cap, v = .slice (some ⟨g, 0, none⟩) l.length cap ∧ base ≤ g ∧ g < w.heap.size ∧ l.length ≤ cap := Own.form h hl
theorem Own.none_ (f : α → Value) (w : World) (base : Nat) (e : TypeId) : Own f w base e (.slice none 0 0) [] := World.ownsRow_nil w base e 1
theorem Own.empty (f : α → Value) (w : World) (e : TypeId) (base : Nat) (hb : base ≤ w.heap.size) : Own f (w.alloc (.cells #[] e)) base e (.slice (some ⟨w.heap.size, 0, none⟩) 0 0) [] :=
  World.ownsRow_lit w #[] 0 hb (by simp) (by simp)
theorem OwnB.empty (w : World) (e : TypeId) (base : Nat) (hb : base ≤ w.heap.size) : OwnB (w.alloc (.cells #[] e)) base e (.slice (some ⟨w.heap.size, 0, none⟩) 0 0) [] := Own.empty u8v w e base hb
/-- A literal's row, unmarked, is one's own. -/
theorem own_lit (f : α → Value) (w : World) (e : TypeId) (base : Nat) (l : List α) (g n c : Nat) (cs : Array Value) (hb : base ≤ w.heap.size) (hg : g = w.heap.size) (hn : n = l.length) (hc : c = l.length) (hcs : cs = (l.map f).toArray) (hl : l.length ≤ 9223372036854775807) :
    Own f (w.alloc (.cells cs e)) base e (.slice (some ⟨g, 0, none⟩) n c) l := by
  subst hg hn hc hcs
  have h := World.ownsRow_lit (base := base) (e := e) (size := 1) w (l.map f).toArray l.length hb (by simpa [maxLen] using hl) (by simp)
  simpa [Own] using h
end

section
variable {P : Program} {ops : Array Oper} {rest : List Oper} {o : Oper} {a : Act} {Q : Exit → Act → World → Prop} {α : Type} {f : α → Value}
/-- append(v, ys...): a row of the call's own, and what is read. -/
theorem run_append_sl {w : World} {R : Nat → Prop} (hf1 : ∀ x, (f x).oneCell' = true) (base : Nat) (t ty e : TypeId) (z : Value) (bytes : Nat) (ht : P.underlying t = some (.slice e)) (hinfo : (P.info? e).map (fun i => (i.zero, i.size, i.bytes)) = some (some z, 1, bytes)) (hz : z.cells.size = 1)
    (hb0 : 0 < bytes) (v x : Value) (xs ys : List α) (HO : Own f w base e v xs) (HR : Sl f R w x ys) (hbase : base ≤ w.heap.size) (hl : (xs.length + ys.length) * bytes ≤ 140737488355328) :
    ∃ v1 w1, (Builtin.append_ #[t, t] ty #[v, x]).run P w = .ok v1 w1 ∧ Own f w1 base e v1 (xs ++ ys) ∧ Fr (fun k => some k ≠ v.ownBlock) w w1 ∧ (v1.ownBlock = v.ownBlock ∨ v1.ownBlock = some w.heap.size) := by
  obtain ⟨i0, hi, hzz⟩ := Option.map_eq_some_iff.1 hinfo
  simp only [Prod.mk.injEq] at hzz
  obtain ⟨hz0, hz1, hz2⟩ := hzz
  obtain ⟨A, c, rfl, hyl, hr⟩ := HR
  have hll : xs.length + ys.length ≤ 140737488355328 := Nat.le_trans (Nat.le_mul_of_pos_right _ hb0) hl
  unfold Own at *
  rcases A with _ | ad
  · have h0 : ys = [] := by
      rcases ys with _ | ⟨y, ys⟩
      · rfl
      · obtain ⟨ad, h, _⟩ := hr 0 (f y) (by simp)
        cases h
    subst h0
    refine ⟨v, w, ?_, by simpa using HO, Fr.refl _ _, .inl rfl⟩
    rcases HO.2 with ⟨rfl, hn⟩ | ⟨g, cap, cur, rfl, _, _, hnc, _⟩
    · simp [Builtin.append_, run_underlying ht, sizeOf, typeInfo, hi, Builtin.lenOf, Builtin.firstCells]
    · simp [Builtin.append_, run_underlying ht, sizeOf, typeInfo, hi, Builtin.lenOf, Builtin.firstCells, hnc, storeCells]
  · have hcells : ∀ j u, (ys.map f)[j]? = some u → w.cell? (ad.add j) = some u := by
      intro j u hu
      obtain ⟨ad', h', _, hc⟩ := hr j u hu
      injection h' with h'
      subst h'
      exact hc
    obtain ⟨v1, w1, hrun, h2, h3, _, h5⟩ := run_append_own_at (P := P) w base t ty e i0 z 1 bytes ht hi hz0 hz1 hz2 hz (by omega) v xs.length (xs.map f) HO ad ys.length c (ys.map f) (by simp) hcells
      (by intro u hu; simp only [List.mem_map] at hu; obtain ⟨q, _, rfl⟩ := hu; exact hf1 q) (by simp only [maxLen]; omega) hl hbase
    exact ⟨v1, w1, hrun, by simpa using h2, Fr.of_grown h3, h5⟩
theorem wpList_append_sl {w : World} {R : Nat → Prop} (hf1 : ∀ x, (f x).oneCell' = true) (base : Nat) (s x : Operand) (t e : TypeId) (z : Value) (bytes : Nat)
    (ho : o.op = .call { callee := .builtin .append, args := #[s, x], argTypes := #[t, t] })
    (ht : P.underlying t = some (.slice e)) (hinfo : (P.info? e).map (fun i => (i.zero, i.size, i.bytes)) = some (some z, 1, bytes)) (hz : z.cells.size = 1) (hb0 : 0 < bytes)
    (v vx : Value) (xs ys : List α) (hs : a.eval s = v) (hx : a.eval x = vx) (HO : Own f w base e v xs) (HR : Sl f R w vx ys) (hbase : base ≤ w.heap.size) (hl : (xs.length + ys.length) * bytes ≤ 140737488355328)
    (hgo : Region.wanted o (yielded ops a.tmps) = true)
    (h : ∀ v1 w1, Own f w1 base e v1 (xs ++ ys) → Fr (fun k => some k ≠ v.ownBlock) w w1 → (v1.ownBlock = v.ownBlock ∨ v1.ownBlock = some w.heap.size) → wpList P ops Q rest (a.put o.dst v1) w1) : wpList P ops Q (o :: rest) a w := by
  obtain ⟨v1, w1, hr, hown, hf, hat⟩ := run_append_sl (P := P) hf1 base t o.type e z bytes ht hinfo hz hb0 v vx xs ys HO HR hbase hl
  refine wpList_step fun K hK => ?_
  rw [if_pos hgo]
  unfold Oper.wp execOp
  simp only [ho, resolve, invoke, builtin, Sem.run_bind, Sem.run_pure, Result.andThen_ok, List.map_toArray, List.map_cons, List.map_nil, hs, hx, hr]
  exact hK _ _ (h v1 w1 hown hf hat)
theorem wpList_append_bytes {w : World} {R : Nat → Prop} (base : Nat) (s x : Operand) (t e : TypeId)
    (ho : o.op = .call { callee := .builtin .append, args := #[s, x], argTypes := #[t, t] })
    (ht : P.underlying t = some (.slice e)) (hinfo : (P.info? e).map (fun i => (i.zero, i.size, i.bytes)) = some (some (.int .u8 0), 1, 1))
    (v vx : Value) (xs ys : List UInt8) (hs : a.eval s = v) (hx : a.eval x = vx) (HO : OwnB w base e v xs) (HR : Bytes R w vx ys) (hbase : base ≤ w.heap.size) (hl : xs.length + ys.length ≤ 140737488355328)
    (hgo : Region.wanted o (yielded ops a.tmps) = true)
    (h : ∀ v1 w1, OwnB w1 base e v1 (xs ++ ys) → Fr (fun k => some k ≠ v.ownBlock) w w1 → (v1.ownBlock = v.ownBlock ∨ v1.ownBlock = some w.heap.size) → wpList P ops Q rest (a.put o.dst v1) w1) : wpList P ops Q (o :: rest) a w :=
  wpList_append_sl (fun _ => rfl) base s x t e (.int .u8 0) 1 ho ht hinfo rfl (by omega) v vx xs ys hs hx HO HR hbase (by omega) hgo h
/-- append(v, y): one element, laid into a box of its own ahead. Behind 'at_builtin': the goal's world is 'W.alloc' of that box. -/
theorem wpList_append_one {w : World} (hf1 : ∀ x, (f x).oneCell' = true) (base : Nat) (s x : Operand) (t e : TypeId) (z : Value) (bytes : Nat)
    (ho : o.op = .call { callee := .builtin .append, args := #[s, x], argTypes := #[t, t] })
    (ht : P.underlying t = some (.slice e)) (hinfo : (P.info? e).map (fun i => (i.zero, i.size, i.bytes)) = some (some z, 1, bytes)) (hz : z.cells.size = 1) (hb0 : 0 < bytes)
    (v : Value) (xs : List α) (y : α) (u : Value) (hu : u = f y) (g : Nat) (hg : g = w.heap.size) (hs : a.eval s = v) (hx : a.eval x = .slice (some ⟨g, 0, none⟩) 1 1) (HO : Own f w base e v xs) (hbase : base ≤ w.heap.size) (hl : (xs.length + 1) * bytes ≤ 140737488355328)
    (hgo : Region.wanted o (yielded ops a.tmps) = true)
    (h : ∀ v1 w1, Own f w1 base e v1 (xs ++ [y]) → Fr (fun k => some k ≠ v.ownBlock) w w1 → (v1.ownBlock = v.ownBlock ∨ ∃ b, v1.ownBlock = some b ∧ w.heap.size ≤ b) → wpList P ops Q rest (a.put o.dst v1) w1) : wpList P ops Q (o :: rest) a (w.alloc (.cells #[u] e)) := by
  subst hu hg
  refine wpList_append_sl (R := fun k => w.heap.size ≤ k) hf1 base s x t e z bytes ho ht hinfo hz hb0 v _ xs [y] hs hx (HO.keep (Fr.of_below ((Below.refl _ _).alloc (Nat.le_refl _) _) _)) ?_ (by simp; omega) (by simpa using hl) hgo ?_
  · exact sl_lit f w e (0, 0) [y] _ _ _ _ rfl rfl (by simp) (by simp)
  · intro v1 w1 ho1 hf1 hat
    refine h v1 w1 ho1 (Fr.trans ((Fr.refl _ _).alloc _) hf1) ?_
    rcases hat with hat | hat
    · exact .inl hat
    · exact .inr ⟨_, hat, by simp⟩
end

/-! ### a block that is known whole -/
def Bk (w : World) (g : Nat) (t : TypeId) (cs : Array Value) : Prop := w.heap[g]? = some (.cells cs t (0, 0))
namespace Bk
variable {w w' : World} {g : Nat} {t : TypeId} {cs : Array Value}
theorem lt (h : Bk w g t cs) : g < w.heap.size := (Array.getElem?_eq_some_iff.1 h).1
theorem cell (h : Bk w g t cs) (i : Nat) : w.cell? ⟨g, i, none⟩ = cs[i]? := by unfold Bk at h; simp [World.cell?, h]
theorem frozen (h : Bk w g t cs) (i : Nat) : w.frozen? ⟨g, i, none⟩ = false := by unfold Bk at h; simp [World.frozen?, h]
theorem new (w : World) (t : TypeId) (cs : Array Value) : Bk (w.alloc (.cells cs t)) w.heap.size t cs := heap_alloc_new w _
theorem fr {P : Nat → Prop} (h : Bk w g t cs) (hf : Fr P w w') (hp : P g) : Bk w' g t cs := (hf.block g h.lt hp).trans h
theorem below {B : Nat} (h : Bk w g t cs) (hf : Below B w w') (hp : g < B) : Bk w' g t cs := (hf.block g hp).trans h
theorem alloc (h : Bk w g t cs) (o : Obj) : Bk (w.alloc o) g t cs := (heap_alloc_old w o h.lt).trans h
theorem drew (h : Bk w g t cs) : Bk w.drew g t cs := h
theorem drewN (h : Bk w g t cs) (n : Nat) : Bk (w.drewN n) g t cs := h
theorem set_ (h : Bk w g t cs) (i : Nat) (u : Value) : Bk (w.setCell ⟨g, i, none⟩ u) g t (cs.setIfInBounds i u) := by
  unfold Bk at h ⊢
  simp [World.setCell, Array.getElem?_modify, h]
theorem far (h : Bk w g t cs) {p : Addr} (hp : g ≠ p.block) (u : Value) : Bk (w.setCell p u) g t cs := (Below.heap_setCell w p u g hp).trans h
end Bk
/-- Some orders have been drawn, nothing else. -/
def Drawn (w w' : World) : Prop := ∃ n, w' = w.drewN n
theorem Drawn.refl (w : World) : Drawn w w := ⟨0, rfl⟩
theorem Drawn.next {w w' : World} (h : Drawn w w') (n : Nat) : Drawn w (w'.drewN n) := by
  obtain ⟨m, rfl⟩ := h
  exact ⟨m + n, World.drewN_drewN ..⟩
theorem Drawn.trans {w w' w'' : World} (h : Drawn w w') (k : Drawn w' w'') : Drawn w w'' := by
  obtain ⟨m, rfl⟩ := k
  exact h.next m
theorem Drawn.cell {w w' : World} (h : Drawn w w') (a : Addr) : w'.cell? a = w.cell? a := by
  obtain ⟨m, rfl⟩ := h
  rfl
theorem below_drewN {B : Nat} {a w : World} (h : Below B a w) (n : Nat) : Below B a (w.drewN n) := ⟨h.os, h.tape, h.output, h.size, h.block⟩
theorem Drawn.below {w w' : World} (h : Drawn w w') (B : Nat) : Below B w w' := by
  obtain ⟨m, rfl⟩ := h
  exact below_drewN (Below.refl _ _) m
theorem fr_below {w w1 w2 : World} {row : Option Nat} (hb : Below w.heap.size w w1) (hf : Fr (fun k => some k ≠ row) w1 w2) (hr : ∀ k, row = some k → w.heap.size ≤ k) : Below w.heap.size w w2 :=
  Fr.after hb hf (fun k hk e => by have := hr k e.symm; omega)

end Go.Proofs.Ytddmifbgbmjdaab
