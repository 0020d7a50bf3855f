/- A set of small numbers in a map that the call makes; a slice of rows that are another's. -/
import Derived.Test.YtddmifbgbmjdaabRef2
import Derived.Maps.OwnSet
set_option linter.unusedVariables false
set_option linter.unusedSimpArgs false
namespace Go.Proofs.Ytddmifbgbmjdaab
open Go.RowKit Go.Maps

theorem plainElem_bool_inv {H : Type} {P : Program} {e : TypeId} (he : P.underlying e = some .bool) {v : Value} {z : DataW H × List MemPlace} (h : plainElem P e v = some z) : ∃ a, v = .bool a ∧ z = (.lit (.bool a), []) := by
  unfold plainElem at h
  rw [he] at h
  cases v <;> simp at h
  exact ⟨_, rfl, h.symm⟩
def SetM (w : World) (b n : Nat) (fs : List Nat) : Prop :=
  ∃ D : DataW Unit, w.ownsMap Try.prog 3 (plainElem Try.prog 4) b n D ∧ ∀ j : Nat, D.atKey (.int .i64 j) (.lit (.bool false)) = .lit (.bool (decide (j ∈ fs)))
theorem wf_small (j : Nat) (hj : j < 1000) : (Lit.int .i64 (j : Int)).wf = true := by
  have h1 : IntKind.i64.min = -9223372036854775808 := by decide
  have h2 : IntKind.i64.max = 9223372036854775807 := by decide
  simp only [Lit.wf, h1, h2, Bool.and_eq_true, decide_eq_true_eq]
  omega
theorem int_keyed' : Keyed Try.prog 3 := int_keyed Try.underlying3
theorem zero_bool (w : World) : (zeroValue 4).run Try.prog w = .ok (.bool false) w := by kernel_rfl
namespace SetM
variable {w w' : World} {b n : Nat} {fs : List Nat}
theorem made (w : World) : SetM (w.alloc (.map #[] 0)) w.heap.size 0 [] := ⟨.map [], World.ownsMap_made _ _ _ _, fun j => rfl⟩
theorem same (h : SetM w b n fs) (hb : w'.heap[b]? = w.heap[b]?) : SetM w' b n fs := by
  obtain ⟨D, ⟨es, clock, h1, h2⟩, h3⟩ := h
  exact ⟨D, ⟨es, clock, hb.trans h1, h2⟩, h3⟩
theorem lt (h : SetM w b n fs) : b < w.heap.size := by
  obtain ⟨D, ⟨es, clock, h1, h2⟩, h3⟩ := h
  exact (Array.getElem?_eq_some_iff.1 h1).1
theorem fr {P : Nat → Prop} (h : SetM w b n fs) (hf : Fr P w w') (hp : P b) : SetM w' b n fs := h.same (hf.block b h.lt hp)
theorem not_row {α : Type} {f : α → Value} {base : Nat} {e : TypeId} {v : Value} {l : List α} (h : SetM w b n fs) (ho : Own f w base e v l) : some b ≠ v.ownBlock := by
  intro e1
  obtain ⟨D, ⟨es, clock, h1, h2⟩, h3⟩ := h
  unfold Own at ho
  rcases ho.2 with ⟨rfl, _⟩ | ⟨g, cap, cur, rfl, _, hh, _⟩
  · simp [Value.ownBlock] at e1
  · simp only [Value.ownBlock, Option.some.injEq] at e1
    subst e1
    rw [h1] at hh
    simp at hh
end SetM
theorem wpList_lookup_set (w : World) {ops : Array Oper} {rest : List Oper} {o : Oper} {a : Act} {Q : Exit → Act → World → Prop}
    (hg : o.guard = none) (m x : Operand) (hop : o.op = Op.lookup 37 m x false) (b n : Nat) (fs : List Nat) (h : SetM w b n fs) (hm : a.eval m = .map (some b)) (j : Nat) (hj : j < 1000) (hx : a.eval x = .int .i64 (j : Int))
    (hK : wpList Try.prog ops Q rest (a.put o.dst (.bool (decide (j ∈ fs)))) w) : wpList Try.prog ops Q (o :: rest) a w := by
  refine wpList_plain hg fun K' hK' => ?_
  obtain ⟨D, hown, hat⟩ := h
  have hkey : keyOf Try.prog 3 (.int .i64 (j : Int)) = some (.int .i64 (j : Int)) := keyOf_int_mk Try.underlying3 (wf_small j hj)
  obtain ⟨v, ps, hrun, hv⟩ := hown.lookup int_keyed' Try.underlying37 (zero_bool _) (plainElem_bool Try.underlying4 false) hkey
  obtain ⟨c, rfl, hc⟩ := plainElem_bool_inv Try.underlying4 hv
  simp only [Prod.mk.injEq, hat j, DataW.lit.injEq, Lit.bool.injEq] at hc
  obtain ⟨rfl, -⟩ := hc
  unfold Oper.wp
  simp [execOp, hop, hm, hx, hrun, Result.andThen]
  exact hK' _ _ hK
theorem wpList_put_set (w : World) {ops : Array Oper} {rest : List Oper} {o : Oper} {a : Act} {Q : Exit → Act → World → Prop}
    (hg : o.guard = none) (m x v : Operand) (hop : o.op = Op.mapUpdate 37 m x v) (b n : Nat) (fs : List Nat) (h : SetM w b n fs) (hn : n < 1000) (hm : a.eval m = .map (some b)) (j : Nat) (hj : j < 1000) (hx : a.eval x = .int .i64 (j : Int)) (hv : a.eval v = .bool true)
    (hK : ∀ w1, SetM w1 b (n + 1) (fs ++ [j]) → Fr (fun k => k ≠ b) w w1 → wpList Try.prog ops Q rest (a.put o.dst undef) w1) : wpList Try.prog ops Q (o :: rest) a w := by
  obtain ⟨D, hown, hat⟩ := h
  have hkey : keyOf Try.prog 3 (.int .i64 (j : Int)) = some (.int .i64 (j : Int)) := keyOf_int_mk Try.underlying3 (wf_small j hj)
  refine wpList_mapUpdate_own w hg m x v _ hop 3 4 int_keyed' Try.underlying37 _ b n D hm hown (by unfold maxLen; omega) _ _ _ hx hv hkey (.lit (.bool true)) [] (plainElem_bool Try.underlying4 true) ?_
  intro w1 h1 hg1
  refine hK w1 ⟨_, h1, fun i => ?_⟩ ⟨hg1.os, hg1.tape, hg1.output, hg1.size, fun k hk hne => hg1.block k hk (by simpa using hne)⟩
  by_cases e : i = j
  · subst e
    rw [atKey_put_same hown.isMap (by first | exact ⟨_, _, rfl⟩ | simp [WideAt.IsKeyLit])]
    simp
  · rw [atKey_put_other (by simp only [ne_eq, Lit.int.injEq, true_and]; omega), hat i]
    simp [e]
/-- A row of another's comes to a slice of one's own. -/
theorem wpList_append_ref {ops : Array Oper} {rest : List Oper} {o : Oper} {a : Act} {Q : Exit → Act → World → Prop} {w : World} (base : Nat) (s x : Operand)
    (ho : o.op = .call { callee := .builtin .append, args := #[s, x], argTypes := #[22, 22] }) (v nv : Value) (l : List Value) (HO : Own id w base 27 v l) (hnv : ∃ A n c, nv = .slice A n c)
    (g : Nat) (hg : g = w.heap.size) (hs : a.eval s = v) (hx : a.eval x = .slice (some ⟨g, 0, none⟩) 1 1) (hbase : base ≤ w.heap.size) (hl : l.length ≤ 1000000) (hgo : Region.wanted o (yielded ops a.tmps) = true)
    (h : ∀ v1 w1, Own id w1 base 27 v1 (l ++ [nv]) → Fr (fun j => some j ≠ v.ownBlock) w w1 → wpList Try.prog ops Q rest (a.put o.dst v1) w1) :
    wpList Try.prog ops Q (o :: rest) a (w.alloc (.cells #[nv] 27)) := by
  subst hg
  obtain ⟨A, n, c, rfl⟩ := hnv
  refine wpList_step fun K hK => ?_
  rw [if_pos hgo]
  have hb : Below w.heap.size w (w.alloc (.cells #[.slice A n c] 27)) := (Below.refl _ _).alloc (Nat.le_refl _) _
  have HOb := HO.keep (w' := w.alloc (.cells #[.slice A n c] 27)) (Fr.of_below hb _)
  refine oper_append_el (f := id) (R := fun j => w.heap.size ≤ j) base s x 22 27 (.slice none 0 0) 24 ho Try.underlying22 info_row rfl (by omega) v (.slice (some ⟨w.heap.size, 0, none⟩) 1 1) l [.slice A n c] (fun x hx => by simp at hx; subst hx; rfl) hs hx HOb (sl_lit id w _ (0, 0) [.slice A n c] _ _ _ _ rfl rfl (by simp) (by simp)) (by have := hb.size; omega) (by simp; omega) ?_
  intro v1 w1 ho1 hf1 had
  exact hK _ _ (h v1 w1 ho1 (Fr.trans (Fr.of_below hb _) hf1))
/-- Numbers all of which a list has. -/
theorem covers : ∀ (N : Nat) (l : List Nat), (∀ j, j < N → j ∈ l) → N ≤ l.length
  | 0, _, _ => Nat.zero_le _
  | N + 1, l, h => by
    have h1 := covers N (l.erase N) (fun j hj => (List.mem_erase_of_ne (by omega)).2 (h j (by omega)))
    rw [List.length_erase_of_mem (h N (by omega))] at h1
    have := List.length_pos_of_mem (h N (by omega))
    omega
end Go.Proofs.Ytddmifbgbmjdaab
