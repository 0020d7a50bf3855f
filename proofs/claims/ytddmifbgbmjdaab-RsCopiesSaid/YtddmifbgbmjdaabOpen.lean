/- Arguments, opened: what a value that reads as data is to a walk. -/
import Derived.Test.YtddmifbgbmjdaabMem
import Derived.ProofKit
import Derived.OpenShut
import Derived.ShutString
import Derived.ChangeOld
import Derived.Lib.SmallJoins
set_option linter.unusedVariables false
set_option linter.unusedSimpArgs false
namespace Go.Proofs.Ytddmifbgbmjdaab
open Go.ChangeShapes Go.WideShapes Go.ChangeAt Go.RowKit Go.Deep
section
variable {H : Type} {enc : TypeId × Value → H} {P : Program} {w : World} {base b0 : Nat} {spare : Nat → Bool} {held : Bool} {r : Reach} {t e : TypeId} {v : Value} {d : DataW H} {p : List MemPlace}
/-- A reading that is a slice of bytes. -/
theorem trod_bytes {fuel : Nat} {x : DataW H × List MemPlace} (ht : P.underlying t = some (.slice e)) (he : P.underlying e = some (.int .u8)) (hc : P.cellsOf e = 1) (hf : DataW.trod enc P w base spare held fuel t [v] = some x) :
    ∃ l, Bytes (· < w.heap.size) w v l := by
  rcases open_ints ht he hc hf with ⟨hcs, _⟩ | ⟨x, len, cap, zs, hcs, _, hl, hm, hz, _, hcell, hwz⟩
  · simp only [List.cons.injEq, and_true] at hcs
    subst hcs
    exact ⟨[], Bytes.nil _ _⟩
  · simp only [List.cons.injEq, and_true] at hcs
    subst hcs
    have hz' : len ≤ zs.length := by rw [hz]; split <;> omega
    refine ⟨(zs.take len).map fun z => UInt8.ofNat z.toNat, some x, cap, ?_, by simp only [maxLen] at hm; simp; omega, fun j u hu => ?_⟩
    · simp; omega
    · simp only [List.map_map, List.getElem?_map, List.getElem?_take] at hu
      split at hu
      · rename_i hj
        have hj' : j < zs.length := by omega
        rw [List.getElem?_eq_getElem hj'] at hu
        simp only [Option.map_some, Option.some.injEq, Function.comp] at hu
        subst hu
        have hcj := hcell j hj'
        have hw := hwz zs[j] (List.getElem_mem hj')
        have hr : 0 ≤ zs[j] ∧ zs[j] < 256 := by
          simp [Lit.wf, IntKind.min, IntKind.max, IntKind.signed, IntKind.bits] at hw
          omega
        refine ⟨x, rfl, ?_, ?_⟩
        · have := World.block_lt_of_cell? w _ hcj
          rwa [add_block] at this
        · rw [hcj]
          simp [u8v, List.getD_eq_getElem?_getD, List.getElem?_eq_getElem hj']
          omega
      · cases hu
theorem trod_ints {fuel : Nat} {x : DataW H × List MemPlace} (ht : P.underlying t = some (.slice e)) (he : P.underlying e = some (.int .i64)) (hc : P.cellsOf e = 1) (hf : DataW.trod enc P w base spare held fuel t [v] = some x) :
    ∃ l, Ints (· < w.heap.size) w v l ∧ ∀ z ∈ l, -9223372036854775808 ≤ z ∧ z ≤ 9223372036854775807 := by
  rcases open_ints ht he hc hf with ⟨hcs, _⟩ | ⟨x, len, cap, zs, hcs, _, hl, hm, hz, _, hcell, hwz⟩
  · simp only [List.cons.injEq, and_true] at hcs
    subst hcs
    exact ⟨[], Sl.nil _ _ _, fun z hz => by cases hz⟩
  · simp only [List.cons.injEq, and_true] at hcs
    subst hcs
    have hz' : len ≤ zs.length := by rw [hz]; split <;> omega
    refine ⟨zs.take len, ⟨some x, cap, ?_, by simp only [maxLen] at hm; simp; omega, fun j u hu => ?_⟩, fun z hz => ?_⟩
    · simp; omega
    · simp only [List.getElem?_map, List.getElem?_take] at hu
      split at hu
      · rename_i hj
        have hj' : j < zs.length := by omega
        rw [List.getElem?_eq_getElem hj'] at hu
        simp only [Option.map_some, Option.some.injEq] at hu
        subst hu
        have hcj := hcell j hj'
        refine ⟨x, rfl, ?_, ?_⟩
        · have := World.block_lt_of_cell? w _ hcj
          rwa [add_block] at this
        · rw [hcj]
          simp [i64v, List.getD_eq_getElem?_getD, List.getElem?_eq_getElem hj']
      · cases hu
    · have hw := hwz z (List.mem_of_mem_take hz)
      simp [Lit.wf, IntKind.min, IntKind.max, IntKind.signed, IntKind.bits] at hw
      omega
theorem open_bytes (ht : P.underlying t = some (.slice e)) (he : P.underlying e = some (.int .u8)) (hc : P.cellsOf e = 1) (hv : Value.okWide P w r b0 t v) (h : DataW.Trod enc P w base spare held t v d p) :
    ∃ l, Bytes (· < w.heap.size) w v l := by
  obtain ⟨a0, len, cap, rfl⟩ := okWide_slice ht hv
  obtain ⟨fuel, hf⟩ := h
  exact trod_bytes ht he hc (by simpa [Value.cells] using hf)
/-- A struct of a number and a slice of numbers. -/
theorem open_conf {f0 f1 : Field} {e : TypeId} (hs : P.underlying t = some (.struct #[f0, f1])) (hone : oneCellFields P #[f0, f1] = true) (hC : P.cellsOf t = 2)
    (h0 : P.underlying f0.type = some (.int .i64)) (h1 : P.underlying f1.type = some (.slice e)) (he : P.underlying e = some (.int .i64)) (hc : P.cellsOf e = 1)
    (hv : Value.okWide P w r b0 t v) (h : DataW.Trod enc P w base spare held t v d p) :
    ∃ (z : Int) (v1 : Value) (l : List Int), v = .agg #[.int .i64 z, v1] ∧ (-9223372036854775808 ≤ z ∧ z ≤ 9223372036854775807) ∧ Ints (· < w.heap.size) w v1 l ∧ ∀ z ∈ l, -9223372036854775808 ≤ z ∧ z ≤ 9223372036854775807 := by
  obtain ⟨v0, v1, y0, y1, n, rfl, _, _, hy0, hy1⟩ := Joins.open_agg2 hs hone hC hv h
  obtain ⟨z, hz, _, hw⟩ := DataW.trod_int h0 hy0
  simp only [List.cons.injEq, and_true] at hz
  subst hz
  obtain ⟨l, hl, hb⟩ := trod_ints h1 he hc hy1
  simp [Lit.wf, IntKind.min, IntKind.max, IntKind.signed, IntKind.bits] at hw
  exact ⟨z, v1, l, rfl, by omega, hl, hb⟩
theorem open_u8 (ht : P.underlying t = some (.int .u8)) (hv : Value.okWide P w r b0 t v) (h : DataW.Trod enc P w base spare held t v d p) : ∃ a : UInt8, v = .int .u8 (a.toNat : Int) := by
  obtain ⟨a, rfl, _, _, hw⟩ := open_int ht hv h
  simp [Lit.wf, IntKind.min, IntKind.max, IntKind.signed, IntKind.bits] at hw
  exact ⟨UInt8.ofNat a.toNat, by simp; omega⟩
theorem open_u16 (ht : P.underlying t = some (.int .u16)) (hv : Value.okWide P w r b0 t v) (h : DataW.Trod enc P w base spare held t v d p) : ∃ a : Nat, v = .int .u16 (a : Int) ∧ a < 65536 := by
  obtain ⟨a, rfl, _, _, hw⟩ := open_int ht hv h
  simp [Lit.wf, IntKind.min, IntKind.max, IntKind.signed, IntKind.bits] at hw
  exact ⟨a.toNat, by simp; omega, by omega⟩
theorem open_u32 (ht : P.underlying t = some (.int .u32)) (hv : Value.okWide P w r b0 t v) (h : DataW.Trod enc P w base spare held t v d p) : ∃ a : Nat, v = .int .u32 (a : Int) ∧ a < 4294967296 := by
  obtain ⟨a, rfl, _, _, hw⟩ := open_int ht hv h
  simp [Lit.wf, IntKind.min, IntKind.max, IntKind.signed, IntKind.bits] at hw
  exact ⟨a.toNat, by simp; omega, by omega⟩
theorem open_i64 (ht : P.underlying t = some (.int .i64)) (hv : Value.okWide P w r b0 t v) (h : DataW.Trod enc P w base spare held t v d p) : ∃ a : Int, v = .int .i64 a ∧ -9223372036854775808 ≤ a ∧ a ≤ 9223372036854775807 := by
  obtain ⟨a, rfl, _, _, hw⟩ := open_int ht hv h
  simp [Lit.wf, IntKind.min, IntKind.max, IntKind.signed, IntKind.bits] at hw
  exact ⟨a, rfl, by omega, by omega⟩
end
end Go.Proofs.Ytddmifbgbmjdaab
