/- Arguments, opened: slices of slices of bytes. -/
import Derived.Test.YtddmifbgbmjdaabOpen
import Derived.Test.YtddmifbgbmjdaabRows2
import Derived.Deep.Matrix
set_option linter.unusedVariables false
set_option linter.unusedSimpArgs false
namespace Go.Proofs.Ytddmifbgbmjdaab
open Go.ChangeShapes Go.WideShapes Go.ChangeAt Go.RowKit Go.Deep
section
variable {H : Type} {enc : TypeId × Value → H} {P : Program} {w : World} {base b0 : Nat} {held : Bool} {r : Reach} {t e q : TypeId} {v : Value} {d : DataW H} {p : List MemPlace}
theorem byte_of_wf {z : Int} (h : (Lit.int .u8 z).wf = true) : 0 ≤ z ∧ z < 256 := by
  simp [Lit.wf, IntKind.min, IntKind.max, IntKind.signed, IntKind.bits] at h
  omega
theorem trod_mat {fuel : Nat} {x : DataW H × List MemPlace} (ht : P.underlying t = some (.slice e)) (he : P.underlying e = some (.slice q)) (hq : P.underlying q = some (.int .u8)) (ce : P.cellsOf e = 1) (cq : P.cellsOf q = 1)
    (hf : DataW.trod enc P w base (fun _ => true) held fuel t [v] = some x) : ∃ M, MatR (· < w.heap.size) w v M := by
  rcases open_int_rows ht he hq ce cq hf with ⟨hcs, _⟩ | ⟨a, len, cap, A, L, C, Z, hcs, _, hl, hm, _, hr⟩
  · simp only [List.cons.injEq, and_true] at hcs
    subst hcs
    exact ⟨[], MatR.nil _ _⟩
  · simp only [List.cons.injEq, and_true] at hcs
    subst hcs
    refine ⟨(List.range len).map fun r => ((Z r).take (L r)).map fun z => UInt8.ofNat z.toNat, (List.range len).map fun r => .slice (A r) (L r) (C r), by simp, ⟨some a, cap, by simp, by simp only [maxLen] at hm; simp; omega, fun j u hu => ?_⟩, fun i h1 h2 => ?_⟩
    · simp only [List.map_id_fun, id, List.getElem?_map, List.map_map, Function.comp] at hu
      rcases Nat.lt_or_ge j len with hj | hj
      · rw [List.getElem?_range hj] at hu
        simp only [Option.map_some, Option.some.injEq] at hu
        subst hu
        have hc := (hr j (by omega)).1
        refine ⟨a, rfl, ?_, hc⟩
        have := World.block_lt_of_cell? w _ hc
        rwa [add_block] at this
      · rw [List.getElem?_eq_none (by simpa using hj)] at hu
        cases hu
    · have hi : i < len := by simpa using h1
      obtain ⟨hc, h3, h4, h5, h6, h7, h8⟩ := hr i (by omega)
      simp only [List.getElem_map, List.getElem_range]
      refine ⟨A i, C i, by simp; omega, by simp only [maxLen] at h4; simp; omega, fun j u hu => ?_⟩
      simp only [List.map_map, List.getElem?_map, List.getElem?_take] at hu
      split at hu
      · rename_i hj
        have hjl : j < (Z i).length := by omega
        rw [List.getElem?_eq_getElem hjl] at hu
        simp only [Option.map_some, Option.some.injEq, Function.comp] at hu
        subst hu
        cases hA : A i with
        | none => have := h7 hA; omega
        | some ad =>
          have hcj := (h8 ad hA).2 j (by omega)
          have hb := byte_of_wf (h6 _ (List.getElem_mem hjl))
          refine ⟨ad, rfl, ?_, ?_⟩
          · have := World.block_lt_of_cell? w _ hcj
            rwa [add_block] at this
          · rw [hcj]
            simp [u8v, List.getD_eq_getElem?_getD, List.getElem?_eq_getElem hjl]
            omega
      · cases hu
theorem open_mat (ht : P.underlying t = some (.slice e)) (he : P.underlying e = some (.slice q)) (hq : P.underlying q = some (.int .u8)) (ce : P.cellsOf e = 1) (cq : P.cellsOf q = 1) (hv : Value.okWide P w r b0 t v) (h : DataW.Trod enc P w base (fun _ => true) held t v d p) :
    ∃ M, MatR (· < w.heap.size) w v M := by
  obtain ⟨a0, len, cap, rfl⟩ := okWide_slice ht hv
  obtain ⟨fuel, hf⟩ := h
  exact trod_mat ht he hq ce cq (by simpa [Value.cells] using hf)
end
end Go.Proofs.Ytddmifbgbmjdaab
