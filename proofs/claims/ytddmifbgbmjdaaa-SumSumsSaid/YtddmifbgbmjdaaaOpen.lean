/- Arguments, opened: what a value that reads as data is to a walk. -/
import Derived.Test.YtddmifbgbmjdaaaMem
import Derived.ProofKit
import Derived.OpenShut
import Derived.ShutString
import Derived.ChangeOld
set_option linter.unusedVariables false
set_option linter.unusedSimpArgs false
namespace Go.Proofs.Ytddmifbgbmjdaaa
open Go.ChangeShapes Go.WideShapes Go.ChangeAt Go.RowKit
section
variable {H : Type} {enc : TypeId × Value → H} {P : Program} {w : World} {base b0 : Nat} {spare : Nat → Bool} {held : Bool} {r : Reach} {t e : TypeId} {v : Value} {d : DataW H} {p : List MemPlace}
theorem open_bytes (ht : P.underlying t = some (.slice e)) (he : P.underlying e = some (.int .u8)) (hc : P.cellsOf e = 1) (hv : Value.okWide P w r b0 t v) (h : DataW.Trod enc P w base spare held t v d p) :
    ∃ l, Bytes (· < w.heap.size) w v l := by
  obtain ⟨a0, len, cap, rfl⟩ := okWide_slice ht hv
  obtain ⟨fuel, hf⟩ := h
  rcases open_ints ht he hc hf with ⟨hcs, _⟩ | ⟨x, l, c, zs, hcs, _, hl, hm, hz, _, hcell, hwz⟩
  · simp [Value.cells] at hcs
    obtain ⟨rfl, rfl, rfl⟩ := hcs
    exact ⟨[], Bytes.nil _ _⟩
  · simp [Value.cells] at hcs
    obtain ⟨rfl, rfl, rfl⟩ := hcs
    have hz' : len ≤ zs.length := by rw [hz]; split <;> omega
    refine ⟨(zs.take len).map fun z => UInt8.ofNat z.toNat, some x, cap, ?_, by simp only [maxLen] at hm; simp; omega, fun j u hu => ?_⟩
    · simp; omega
    · simp only [List.map_map, List.getElem?_map, List.getElem?_take] at hu
      split at hu
      · rename_i hj
        have hj' : j < zs.length := by omega
        rw [List.getElem?_eq_getElem hj'] at hu
        simp only [Option.map_some, Option.some.injEq, Function.comp] at hu
        subst hu
        have hcj := hcell j hj'
        have hw := hwz zs[j] (List.getElem_mem hj')
        have hr : 0 ≤ zs[j] ∧ zs[j] < 256 := by
          simp [Lit.wf, IntKind.min, IntKind.max, IntKind.signed, IntKind.bits] at hw
          omega
        refine ⟨x, rfl, ?_, ?_⟩
        · have := World.block_lt_of_cell? w _ hcj
          rwa [add_block] at this
        · rw [hcj]
          simp [u8v, List.getD_eq_getElem?_getD, List.getElem?_eq_getElem hj']
          omega
      · cases hu
theorem open_u8 (ht : P.underlying t = some (.int .u8)) (hv : Value.okWide P w r b0 t v) (h : DataW.Trod enc P w base spare held t v d p) : ∃ a : UInt8, v = .int .u8 (a.toNat : Int) := by
  obtain ⟨a, rfl, _, _, hw⟩ := open_int ht hv h
  simp [Lit.wf, IntKind.min, IntKind.max, IntKind.signed, IntKind.bits] at hw
  exact ⟨UInt8.ofNat a.toNat, by simp; omega⟩
theorem open_u16 (ht : P.underlying t = some (.int .u16)) (hv : Value.okWide P w r b0 t v) (h : DataW.Trod enc P w base spare held t v d p) : ∃ a : Nat, v = .int .u16 (a : Int) ∧ a < 65536 := by
  obtain ⟨a, rfl, _, _, hw⟩ := open_int ht hv h
  simp [Lit.wf, IntKind.min, IntKind.max, IntKind.signed, IntKind.bits] at hw
  exact ⟨a.toNat, by simp; omega, by omega⟩
theorem open_u32 (ht : P.underlying t = some (.int .u32)) (hv : Value.okWide P w r b0 t v) (h : DataW.Trod enc P w base spare held t v d p) : ∃ a : Nat, v = .int .u32 (a : Int) ∧ a < 4294967296 := by
  obtain ⟨a, rfl, _, _, hw⟩ := open_int ht hv h
  simp [Lit.wf, IntKind.min, IntKind.max, IntKind.signed, IntKind.bits] at hw
  exact ⟨a.toNat, by simp; omega, by omega⟩
theorem open_i64 (ht : P.underlying t = some (.int .i64)) (hv : Value.okWide P w r b0 t v) (h : DataW.Trod enc P w base spare held t v d p) : ∃ a : Int, v = .int .i64 a ∧ -9223372036854775808 ≤ a ∧ a ≤ 9223372036854775807 := by
  obtain ⟨a, rfl, _, _, hw⟩ := open_int ht hv h
  simp [Lit.wf, IntKind.min, IntKind.max, IntKind.signed, IntKind.bits] at hw
  exact ⟨a, rfl, by omega, by omega⟩
end
end Go.Proofs.Ytddmifbgbmjdaaa
