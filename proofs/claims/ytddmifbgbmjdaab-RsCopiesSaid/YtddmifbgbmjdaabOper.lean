/- An append within a region that draws its order. -/
import Derived.Test.YtddmifbgbmjdaabMem
set_option linter.unusedVariables false
set_option linter.unusedSimpArgs false
namespace Go.Proofs.Ytddmifbgbmjdaab
open Go.RowKit
section
variable {P : Program} {ops : Array Oper} {rest : List Oper} {a : Act} {Q : Exit → Act → World → Prop} {α : Type} {f : α → Value}
theorem run_append_el {w : World} {R : Nat → Prop} (v x : Value) (xs ys : List α) (hf1 : ∀ x ∈ ys, (f x).oneCell' = true) (base : Nat) (t ty e : TypeId) (z : Value) (bytes : Nat) (ht : P.underlying t = some (.slice e)) (hinfo : (P.info? e).map (fun i => (i.zero, i.size, i.bytes)) = some (some z, 1, bytes)) (hz : z.cells.size = 1)
    (hb0 : 0 < bytes) (HO : Own f w base e v xs) (HR : Sl f R w x ys) (hbase : base ≤ w.heap.size) (hl : (xs.length + ys.length) * bytes ≤ 140737488355328) :
    ∃ v1 w1, (Builtin.append_ #[t, t] ty #[v, x]).run P w = .ok v1 w1 ∧ Own f w1 base e v1 (xs ++ ys) ∧ Fr (fun k => some k ≠ v.ownBlock) w w1 ∧ (v1.ownBlock = v.ownBlock ∨ v1.ownBlock = some w.heap.size) := by
  obtain ⟨i0, hi, hzz⟩ := Option.map_eq_some_iff.1 hinfo
  simp only [Prod.mk.injEq] at hzz
  obtain ⟨hz0, hz1, hz2⟩ := hzz
  obtain ⟨A, c, rfl, hyl, hr⟩ := HR
  have hll : xs.length + ys.length ≤ 140737488355328 := Nat.le_trans (Nat.le_mul_of_pos_right _ hb0) hl
  unfold Own at *
  rcases A with _ | ad
  · have h0 : ys = [] := by
      rcases ys with _ | ⟨y, ys⟩
      · rfl
      · obtain ⟨ad, h, _⟩ := hr 0 (f y) (by simp)
        cases h
    subst h0
    refine ⟨v, w, ?_, by simpa using HO, Fr.refl _ _, .inl rfl⟩
    rcases HO.2 with ⟨rfl, hn⟩ | ⟨g, cap, cur, rfl, _, _, hnc, _⟩
    · simp [Builtin.append_, run_underlying ht, sizeOf, typeInfo, hi, Builtin.lenOf, Builtin.firstCells]
    · simp [Builtin.append_, run_underlying ht, sizeOf, typeInfo, hi, Builtin.lenOf, Builtin.firstCells, hnc, storeCells]
  · have hcells : ∀ j u, (ys.map f)[j]? = some u → w.cell? (ad.add j) = some u := by
      intro j u hu
      obtain ⟨ad', h', _, hc⟩ := hr j u hu
      injection h' with h'
      subst h'
      exact hc
    obtain ⟨v1, w1, hrun, h2, h3, _, h5⟩ := run_append_own_at (P := P) w base t ty e i0 z 1 bytes ht hi hz0 hz1 hz2 hz (by omega) v xs.length (xs.map f) HO ad ys.length c (ys.map f) (by simp) hcells
      (by intro u hu; simp only [List.mem_map] at hu; obtain ⟨q, hq, rfl⟩ := hu; exact hf1 q hq) (by simp only [maxLen]; omega) hl hbase
    exact ⟨v1, w1, hrun, by simpa using h2, Fr.of_grown h3, h5⟩
end
section
variable {P : Program} {o : Oper} {a : Act} {K : Act → World → Prop} {Q : Exit → Act → World → Prop} {α : Type} {f : α → Value}
theorem oper_append_el {w : World} {R : Nat → Prop} (base : Nat) (s x : Operand) (t e : TypeId) (z : Value) (bytes : Nat)
    (ho : o.op = .call { callee := .builtin .append, args := #[s, x], argTypes := #[t, t] })
    (ht : P.underlying t = some (.slice e)) (hinfo : (P.info? e).map (fun i => (i.zero, i.size, i.bytes)) = some (some z, 1, bytes)) (hz : z.cells.size = 1) (hb0 : 0 < bytes)
    (v vx : Value) (xs ys : List α) (hf1 : ∀ x ∈ ys, (f x).oneCell' = true) (hs : a.eval s = v) (hx : a.eval x = vx) (HO : Own f w base e v xs) (HR : Sl f R w vx ys) (hbase : base ≤ w.heap.size) (hl : (xs.length + ys.length) * bytes ≤ 140737488355328)
    (h : ∀ v1 w1, Own f w1 base e v1 (xs ++ ys) → Fr (fun k => some k ≠ v.ownBlock) w w1 → (v1.ownBlock = v.ownBlock ∨ v1.ownBlock = some w.heap.size) → K (a.put o.dst v1) w1) : Oper.wp P o a w K Q := by
  obtain ⟨v1, w1, hr, hown, hf, hat⟩ := run_append_el (P := P) v vx xs ys hf1 base t o.type e z bytes ht hinfo hz hb0 HO HR hbase hl
  unfold Oper.wp execOp
  simp only [ho, resolve, invoke, builtin, Sem.run_bind, Sem.run_pure, Result.andThen_ok, List.map_toArray, List.map_cons, List.map_nil, hs, hx, hr]
  exact h v1 w1 hown hf hat
end
end Go.Proofs.Ytddmifbgbmjdaab
