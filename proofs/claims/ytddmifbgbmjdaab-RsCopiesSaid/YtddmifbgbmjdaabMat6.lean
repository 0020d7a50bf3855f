/- The solver in memory; the walk of its pivot. -/
import Derived.Test.YtddmifbgbmjdaabMat5
import Derived.BigRegion
set_option linter.unusedVariables false
set_option linter.unusedSimpArgs false
namespace Go.Proofs.Ytddmifbgbmjdaab
open Go.RowKit

def swapV (a b : Nat) (rv : Nat → Value) : Nat → Value := fun i => if i = a then rv b else if i = b then rv a else rv i
def swapI (a b i : Nat) : Nat := if i = a then b else if i = b then a else i
theorem swapI_lt {a b N i : Nat} (ha : a < N) (hb : b < N) (hi : i < N) : swapI a b i < N := by unfold swapI; split <;> (try split) <;> omega
theorem swapI_inj {a b i j : Nat} (h : i ≠ j) : swapI a b i ≠ swapI a b j := by unfold swapI; split <;> split <;> (try split) <;> (try split) <;> omega
theorem swapV_eq (a b : Nat) (rv : Nat → Value) (i : Nat) : swapV a b rv i = rv (swapI a b i) := by unfold swapV swapI; split <;> (try split) <;> rfl
theorem swapF_eq (a b : Nat) (F : Nat → Nat → UInt8) (i : Nat) : swapF a b F i = F (swapI a b i) := by unfold swapF swapI; split <;> (try split) <;> rfl
theorem swap_hdr (N a b : Nat) (rv : Nat → Value) (ha : a < N) (hb : b < N) : (((List.range N).map rv).set a (rv b)).set b (rv a) = (List.range N).map (swapV a b rv) := by
  refine List.ext_getElem (by simp) fun j h1 h2 => ?_
  simp only [List.getElem_set, List.getElem_map, List.getElem_range, swapV]
  by_cases e1 : b = j
  · subst e1
    rw [if_pos rfl]
    by_cases e2 : b = a
    · subst e2; simp
    · rw [if_neg e2, if_pos rfl]
  · rw [if_neg e1]
    by_cases e2 : a = j
    · subst e2; rw [if_pos rfl, if_pos rfl]
    · rw [if_neg e2, if_neg (fun e => e2 e.symm), if_neg (fun e => e1 e.symm)]
theorem Fam.conv {I : Type} {w : World} {base : Nat} {S : I → Prop} {rv rv' : I → Value} {L L' : I → List UInt8} (h : Fam w base S rv L) (e1 : ∀ i, S i → rv i = rv' i) (e2 : ∀ i, S i → L i = L' i) : Fam w base S rv' L' :=
  ⟨fun i hi => by rw [← e1 i hi, ← e2 i hi]; exact h.row i hi, fun i j hi hj hne b hb => by rw [← e1 j hj]; rw [← e1 i hi] at hb; exact h.apart i j hi hj hne b hb⟩

/-- The solver: its block, the two matrices. -/
structure Slv (w : World) (base s tg gm cm go co N : Nat) (rm ro : Nat → Value) (Fm Fo : Nat → Nat → UInt8) : Prop where
  blk : Bk w s 69 #[.pointer (some ⟨tg, 0, none⟩), .slice (some ⟨gm, 0, none⟩) N cm, .slice (some ⟨go, 0, none⟩) N co]
  tab : TabAt w tg
  tm : Own id w base 27 (.slice (some ⟨gm, 0, none⟩) N cm) ((List.range N).map rm)
  to : Own id w base 27 (.slice (some ⟨go, 0, none⟩) N co) ((List.range N).map ro)
  fam : Fam w base (fun i : Bool × Nat => i.2 < N) (fun i => if i.1 = true then ro i.2 else rm i.2) (fun i => rowL N (if i.1 = true then Fo i.2 else Fm i.2))
  ne : gm ≠ go
  lo : base ≤ s ∧ base ≤ tg
namespace Slv
variable {w w' : World} {base s tg gm cm go co N : Nat} {rm ro : Nat → Value} {Fm Fo : Nat → Nat → UInt8}
theorem below (h : Slv w base s tg gm cm go co N rm ro Fm Fo) (hb : Below w.heap.size w w') : Slv w' base s tg gm cm go co N rm ro Fm Fo :=
  ⟨h.blk.below hb h.blk.lt, h.tab.below hb h.tab.lt, h.tm.keep (Fr.of_below hb _), h.to.keep (Fr.of_below hb _), h.fam.keep_below hb, h.ne, h.lo⟩
theorem drewN (h : Slv w base s tg gm cm go co N rm ro Fm Fo) (n : Nat) : Slv (w.drewN n) base s tg gm cm go co N rm ro Fm Fo := h.below (below_drewN (Below.refl _ _) n)
theorem rowM (h : Slv w base s tg gm cm go co N rm ro Fm Fo) (k : Nat) (hk : k < N) : OwnB w base 5 (rm k) (rowL N (Fm k)) := by simpa using h.fam.row (false, k) hk
theorem rowO (h : Slv w base s tg gm cm go co N rm ro Fm Fo) (k : Nat) (hk : k < N) : OwnB w base 5 (ro k) (rowL N (Fo k)) := by simpa using h.fam.row (true, k) hk
theorem atM (h : Slv w base s tg gm cm go co N rm ro Fm Fo) (k : Nat) (hk : k < N) : w.cell? ⟨gm, k, none⟩ = some (rm k) ∧ w.frozen? ⟨gm, k, none⟩ = false := by
  obtain ⟨h1, h2⟩ := Own.cell h.tm k (by simp; exact hk)
  exact ⟨by rw [h1]; simp, h2⟩
theorem atO (h : Slv w base s tg gm cm go co N rm ro Fm Fo) (k : Nat) (hk : k < N) : w.cell? ⟨go, k, none⟩ = some (ro k) ∧ w.frozen? ⟨go, k, none⟩ = false := by
  obtain ⟨h1, h2⟩ := Own.cell h.to k (by simp; exact hk)
  exact ⟨by rw [h1]; simp, h2⟩
theorem updM (h : Slv w base s tg gm cm go co N rm ro Fm Fo) (k : Nat) (hk : k < N) (f : Nat → UInt8) (ho : OwnB w' base 5 (rm k) (rowL N f)) (hf : Fr (fun j => some j ≠ (rm k).ownBlock) w w') :
    Slv w' base s tg gm cm go co N rm ro (fun i => if i = k then f else Fm i) Fo := by
  have hr := h.rowM k hk
  refine ⟨h.blk.fr hf (bk_apart h.blk hr (by decide)), h.tab.fr hf (tab_apart h.tab hr (by decide)), h.tm.keep (hf.mono fun j _ hj e => own_apart h.tm hr (by decide) j hj e.symm), h.to.keep (hf.mono fun j _ hj e => own_apart h.to hr (by decide) j hj e.symm), ?_, h.ne, h.lo⟩
  refine (h.fam.upd (false, k) hk (rowL N f) (by simpa using ho) (by simpa using hf)).congr _ fun i hi => ?_
  obtain ⟨b, i⟩ := i
  cases b
  · by_cases e : i = k <;> simp [e]
  · simp
theorem updO (h : Slv w base s tg gm cm go co N rm ro Fm Fo) (k : Nat) (hk : k < N) (f : Nat → UInt8) (ho : OwnB w' base 5 (ro k) (rowL N f)) (hf : Fr (fun j => some j ≠ (ro k).ownBlock) w w') :
    Slv w' base s tg gm cm go co N rm ro Fm (fun i => if i = k then f else Fo i) := by
  have hr := h.rowO k hk
  refine ⟨h.blk.fr hf (bk_apart h.blk hr (by decide)), h.tab.fr hf (tab_apart h.tab hr (by decide)), h.tm.keep (hf.mono fun j _ hj e => own_apart h.tm hr (by decide) j hj e.symm), h.to.keep (hf.mono fun j _ hj e => own_apart h.to hr (by decide) j hj e.symm), ?_, h.ne, h.lo⟩
  refine (h.fam.upd (true, k) hk (rowL N f) (by simpa using ho) (by simpa using hf)).congr _ fun i hi => ?_
  obtain ⟨b, i⟩ := i
  cases b
  · simp
  · by_cases e : i = k <;> simp [e]
theorem congr (h : Slv w base s tg gm cm go co N rm ro Fm Fo) (Fm' Fo' : Nat → Nat → UInt8) (e1 : ∀ i k, i < N → k < N → Fm i k = Fm' i k) (e2 : ∀ i k, i < N → k < N → Fo i k = Fo' i k) : Slv w base s tg gm cm go co N rm ro Fm' Fo' :=
  ⟨h.blk, h.tab, h.tm, h.to, h.fam.congr _ fun i hi => by
    obtain ⟨b, i⟩ := i
    cases b
    · simpa using rowL_congr _ _ _ fun k hk => e1 i k hi hk
    · simpa using rowL_congr _ _ _ fun k hk => e2 i k hi hk, h.ne, h.lo⟩
theorem swapM (h : Slv w base s tg gm cm go co N rm ro Fm Fo) (a b : Nat) (ha : a < N) (hb : b < N) : Slv ((w.setCell ⟨gm, a, none⟩ (rm b)).setCell ⟨gm, b, none⟩ (rm a)) base s tg gm cm go co N (swapV a b rm) ro (swapF a b Fm) Fo := by
  have hf : Fr (fun j => j ≠ gm) w ((w.setCell ⟨gm, a, none⟩ (rm b)).setCell ⟨gm, b, none⟩ (rm a)) := ((Fr.refl _ _).setCell (fun _ => by simp) _).setCell (fun _ => by simp) _
  have ht := Own.stored (Own.stored h.tm a (rm b)) b (rm a)
  rw [swap_hdr N a b rm ha hb] at ht
  refine ⟨h.blk.fr hf (fun e => bk_apart h.blk h.tm (by decide) (by rw [e]; rfl)), h.tab.fr hf (fun e => tab_apart h.tab h.tm (by decide) (by rw [e]; rfl)), ht, h.to.keep (hf.mono fun j _ hj e => h.ne (by have : some go = some j := hj; simp at this; omega)), ?_, h.ne, h.lo⟩
  have h1 := h.fam.keep (w' := (w.setCell ⟨gm, a, none⟩ (rm b)).setCell ⟨gm, b, none⟩ (rm a)) (hf.mono fun j _ ⟨i, hi, hj⟩ e => own_apart h.tm (h.fam.row i hi) (by decide) j (by rw [e]; rfl) hj)
  have h2 := h1.pull (fun i : Bool × Nat => if i.1 = true then i else (false, swapI a b i.2)) (fun i => i.2 < N) (fun i hi => by
    obtain ⟨c, i⟩ := i
    cases c
    · exact swapI_lt ha hb hi
    · exact hi) (fun i j hi hj hne => by
    obtain ⟨c, i⟩ := i
    obtain ⟨d, j⟩ := j
    cases c <;> cases d <;> simp at hne ⊢
    · exact swapI_inj hne
    · exact hne)
  refine h2.conv (fun i _ => ?_) (fun i _ => ?_)
  · obtain ⟨c, i⟩ := i
    cases c <;> simp [swapV_eq]
  · obtain ⟨c, i⟩ := i
    cases c <;> simp [swapF_eq]
theorem swapO (h : Slv w base s tg gm cm go co N rm ro Fm Fo) (a b : Nat) (ha : a < N) (hb : b < N) : Slv ((w.setCell ⟨go, a, none⟩ (ro b)).setCell ⟨go, b, none⟩ (ro a)) base s tg gm cm go co N rm (swapV a b ro) Fm (swapF a b Fo) := by
  have hf : Fr (fun j => j ≠ go) w ((w.setCell ⟨go, a, none⟩ (ro b)).setCell ⟨go, b, none⟩ (ro a)) := ((Fr.refl _ _).setCell (fun _ => by simp) _).setCell (fun _ => by simp) _
  have ht := Own.stored (Own.stored h.to a (ro b)) b (ro a)
  rw [swap_hdr N a b ro ha hb] at ht
  refine ⟨h.blk.fr hf (fun e => bk_apart h.blk h.to (by decide) (by rw [e]; rfl)), h.tab.fr hf (fun e => tab_apart h.tab h.to (by decide) (by rw [e]; rfl)), h.tm.keep (hf.mono fun j _ hj e => h.ne (by have : some gm = some j := hj; simp at this; omega)), ht, ?_, h.ne, h.lo⟩
  have h1 := h.fam.keep (w' := (w.setCell ⟨go, a, none⟩ (ro b)).setCell ⟨go, b, none⟩ (ro a)) (hf.mono fun j _ ⟨i, hi, hj⟩ e => own_apart h.to (h.fam.row i hi) (by decide) j (by rw [e]; rfl) hj)
  have h2 := h1.pull (fun i : Bool × Nat => if i.1 = true then (true, swapI a b i.2) else i) (fun i => i.2 < N) (fun i hi => by
    obtain ⟨c, i⟩ := i
    cases c
    · exact hi
    · exact swapI_lt ha hb hi) (fun i j hi hj hne => by
    obtain ⟨c, i⟩ := i
    obtain ⟨d, j⟩ := j
    cases c <;> cases d <;> simp at hne ⊢
    · exact hne
    · exact swapI_inj hne)
  refine h2.conv (fun i _ => ?_) (fun i _ => ?_)
  · obtain ⟨c, i⟩ := i
    cases c <;> simp [swapV_eq]
  · obtain ⟨c, i⟩ := i
    cases c <;> simp [swapF_eq]
theorem matM (h : Slv w base s tg gm cm go co N rm ro Fm Fo) : MatR (base ≤ ·) w (.slice (some ⟨gm, 0, none⟩) N cm) (Go.Proofs.Ytddmifbgbmjdaab.tab N N Fm) :=
  OwnMat.reads (rv := rm) (L := fun i => rowL N (Fm i)) ⟨h.tm, (h.fam.pull (fun i => (false, i)) (· < N) (fun i hi => hi) (fun i j _ _ hne e => hne (by simpa using e))).conv (fun i _ => by simp) (fun i _ => by simp)⟩
end Slv
end Go.Proofs.Ytddmifbgbmjdaab
