/- A region that draws its order and ends in stores: whatever reads, and is waited for by the first store, may be taken first; so may what looks at no memory. What is asked of the world is asked until the first store alone. -/
import Derived.OrdersHeld
import Derived.Test.YtddmifbgbmjdaabMem
set_option linter.unusedVariables false
set_option linter.unusedSimpArgs false
namespace Go.Proofs.Ytddmifbgbmjdaab
open Go
section
variable {P : Program} {ops : Array Oper} {Q : Exit → Act → World → Prop} {md : Region.Mode} {S T : World → Prop} {stop : Nat}

theorem no_false {b : Bool} {X : Prop} (h : b = true) (h' : b = false) : X := by rw [h] at h'; cases h'
/-- Every order from here on; 'S' is kept as long as the operation 'stop' has not come. -/
def OrdTo (P : Program) (md : Region.Mode) (ops : Array Oper) (Q : Exit → Act → World → Prop) (S T : World → Prop) (stop : Nat) : Nat → Array Bool → Act → World → Prop
  | 0, listed, a, w => Region.ready md ops listed = [] ∧ Q .normal a w
  | fuel + 1, listed, a, w => (Region.ready md ops listed = [] → Q .normal a w) ∧
      ∀ i ∈ Region.ready md ops listed, wpOp P ops Q i (fun a' w' => ((listed.setIfInBounds i true).getD stop true = false → S w') ∧ T w' ∧ OrdTo P md ops Q S T stop fuel (listed.setIfInBounds i true) a' w') a w
theorem OrdTo.any : ∀ (fuel : Nat) (listed : Array Bool) (a : Act) (w : World), OrdTo P md ops Q S T stop fuel listed a w → wpAny P md ops Q fuel listed a w
  | 0, _, _, _, h => h
  | fuel + 1, _, _, _, h => ⟨h.1, fun i hi => wpOp_mono (fun a' w' h' => OrdTo.any fuel _ a' w' h'.2.2) (h.2 i hi)⟩
theorem not_yet {i : Nat} {oj : Oper} {listed : Array Bool} (hall : ∀ e ∈ oj.after, Region.binds md e = true → listed.getD e.on false = true) (h0 : listed.getD i true = false) : ∀ e ∈ oj.after, Region.binds md e = true → e.on ≠ i := by
  intro e he hb heq
  have h1 := hall e he hb
  rw [heq] at h1
  by_cases h' : i < listed.size
  · simp [h'] at h0 h1
    rw [h0] at h1
    cases h1
  · simp [Array.getElem?_eq_none (Nat.le_of_not_lt h')] at h1
theorem unset {listed : Array Bool} {i j : Nat} (h : (listed.setIfInBounds i true).getD j true = false) : listed.getD j true = false := by
  by_cases e : i = j
  · subst e
    by_cases h' : i < listed.size
    · simp [h'] at h
    · simp [Array.getElem?_eq_none (Nat.le_of_not_lt h')] at h
  · rw [getD_set_ne true e] at h; exact h
theorem OrdTo.first {i : Nat} {oi os : Oper} {v : Value} (hi : ops[i]? = some oi) (hst : ops[stop]? = some os) (hwait : ∃ e ∈ os.after, Region.binds md e = true ∧ e.on = i)
    (hsel : ∀ (j : Nat) (o : Oper) cs b, ops[j]? = some o → o.op ≠ .select cs b) (hQ : ∀ c a w, Q (.panic c) (a.put oi.dst v) w → Q (.panic c) a w) (fuel : Nat) :
    ∀ (listed : Array Bool) (a : Act) (w : World), (∀ j oj, ops[j]? = some oj → j ≠ i → listed.getD j true = false → (∀ e ∈ oj.after, Region.binds md e = true → e.on ≠ i) → oi.apart ops oj = true) →
      i ∈ Region.ready md ops listed → YieldsIf P ops (fun w => S w ∧ T w) oi v a → S w → T w → listed.getD stop true = false → OrdTo P md ops Q S T stop fuel (listed.setIfInBounds i true) (a.put oi.dst v) w → OrdTo P md ops Q S T stop (fuel + 1) listed a w := by
  induction fuel with
  | zero =>
    intro listed a w _ hr hy hS hT hun H
    refine ⟨fun h => absurd hr (by rw [h]; simp), fun j hj => ?_⟩
    by_cases e : j = i
    · rw [e]; exact hy.wpOp hi ⟨hS, hT⟩ ⟨fun _ => hS, hT, H⟩
    · exact absurd (ready_mono hj e) (by rw [H.1]; simp)
  | succ fuel ih =>
    intro listed a w hfree hr hy hS hT hun H
    refine ⟨fun h => absurd hr (by rw [h]; simp), fun j hj => ?_⟩
    by_cases e : j = i
    · rw [e]; exact hy.wpOp hi ⟨hS, hT⟩ ⟨fun _ => hS, hT, H⟩
    · obtain ⟨hu, oj, hoj, hall⟩ := mem_ready.1 hj
      have hn := not_yet (md := md) hall (mem_ready.1 hr).1
      have hjs : j ≠ stop := by
        rintro rfl
        rw [hst] at hoj
        cases hoj
        obtain ⟨ed, h1, h2, h3⟩ := hwait
        exact hn ed h1 h2 h3
      have hun' : (listed.setIfInBounds j true).getD stop true = false := by rw [getD_set_ne true hjs]; exact hun
      have hi' : i ≠ stop := by
        rintro rfl
        rw [hst] at hi
        cases hi
        obtain ⟨ed, h1, h2, h3⟩ := hwait
        obtain ⟨hu2, oi2, hoi2, hall2⟩ := mem_ready.1 hr
        rw [hst] at hoi2
        cases hoi2
        exact not_yet (md := md) hall2 hu2 ed h1 h2 h3
      refine wpOp_mono ?_ (wpOp_putIf hoj (hfree j oj hoj e hu hn) (fun cs b => hsel i oi cs b hi) (fun cs b => hsel j oj cs b hoj) hQ hy (H.2 j (ready_mono hj e)))
      rintro a' w' ⟨hy', hS', hT', h'⟩
      have hS2 : S w' := hS' (by rw [getD_set_ne true hjs, getD_set_ne true hi']; exact hun)
      refine ⟨fun _ => hS2, hT', ih _ a' w' (fun k ok hk hki hku hkn => hfree k ok hk hki (unset hku) hkn) (ready_mono hr (Ne.symm e)) hy' hS2 hT' hun' (by rw [Array.setIfInBounds_comm _ _ e]; exact h')⟩
theorem OrdTo.firstPure {i : Nat} {oi : Oper} {v : Value} (hi : ops[i]? = some oi) (hne : i ≠ stop)
    (hsel : ∀ (j : Nat) (o : Oper) cs b, ops[j]? = some o → o.op ≠ .select cs b) (hQ : ∀ c a w, Q (.panic c) (a.put oi.dst v) w → Q (.panic c) a w) (fuel : Nat) :
    ∀ (listed : Array Bool) (a : Act) (w : World), (∀ j oj, ops[j]? = some oj → j ≠ i → listed.getD j true = false → (∀ e ∈ oj.after, Region.binds md e = true → e.on ≠ i) → oi.apart ops oj = true) →
      i ∈ Region.ready md ops listed → YieldsIf P ops T oi v a → (listed.getD stop true = false → S w) → T w → OrdTo P md ops Q S T stop fuel (listed.setIfInBounds i true) (a.put oi.dst v) w → OrdTo P md ops Q S T stop (fuel + 1) listed a w := by
  induction fuel with
  | zero =>
    intro listed a w _ hr hy hS hT H
    refine ⟨fun h => absurd hr (by rw [h]; simp), fun j hj => ?_⟩
    by_cases e : j = i
    · rw [e]; exact hy.wpOp hi hT ⟨fun h => hS (unset h), hT, H⟩
    · exact absurd (ready_mono hj e) (by rw [H.1]; simp)
  | succ fuel ih =>
    intro listed a w hfree hr hy hS hT H
    refine ⟨fun h => absurd hr (by rw [h]; simp), fun j hj => ?_⟩
    by_cases e : j = i
    · rw [e]; exact hy.wpOp hi hT ⟨fun h => hS (unset h), hT, H⟩
    · obtain ⟨hu, oj, hoj, hall⟩ := mem_ready.1 hj
      have hn := not_yet (md := md) hall (mem_ready.1 hr).1
      refine wpOp_mono ?_ (wpOp_putIf hoj (hfree j oj hoj e hu hn) (fun cs b => hsel i oi cs b hi) (fun cs b => hsel j oj cs b hoj) hQ hy (H.2 j (ready_mono hj e)))
      rintro a' w' ⟨hy', hS', hT', h'⟩
      have hS2 : (listed.setIfInBounds j true).getD stop true = false → S w' := fun h => hS' (by
        rw [Array.setIfInBounds_comm _ _ (Ne.symm e), getD_set_ne true hne]; exact h)
      refine ⟨hS2, hT', ih _ a' w' (fun k ok hk hki hku hkn => hfree k ok hk hki (unset hku) hkn) (ready_mono hr (Ne.symm e)) hy' hS2 hT' (by rw [Array.setIfInBounds_comm _ _ e]; exact h')⟩
def waitsB (md : Region.Mode) (ops : Array Oper) (j i : Nat) : Bool :=
  match ops[j]? with
  | some oj => oj.after.any fun e => Region.binds md e && e.on == i
  | none => false
theorem waitsB_spec {j i : Nat} (h : waitsB md ops j i = true) : ∃ oj, ops[j]? = some oj ∧ ∃ e ∈ oj.after, Region.binds md e = true ∧ e.on = i := by
  unfold waitsB at h
  split at h
  · rename_i oj hj
    obtain ⟨e, he, hb⟩ := Array.any_eq_true'.1 h
    simp only [Bool.and_eq_true, beq_iff_eq] at hb
    exact ⟨oj, hj, e, he, hb.1, hb.2⟩
  · cases h
/-- Number i, which may read, is taken first. -/
theorem OrdTo.take (i : Nat) {oi : Oper} {v : Value} {fuel : Nat} {listed : Array Bool} {a : Act} {w : World} (hi : ops[i]? = some oi)
    (hc : (Region.noSelect ops && Region.free md ops listed i && (Region.ready md ops listed).contains i && waitsB md ops stop i && !(listed.getD stop true)) = true)
    (hQ : ∀ c a w, Q (.panic c) (a.put oi.dst v) w → Q (.panic c) a w) (hS : S w) (hT : T w) (hw : Region.wanted oi (yielded ops a.tmps) = true) (hy : ∀ w, S w → T w → (execOp a.eval oi).run P w = .ok (.value v) w)
    (h : OrdTo P md ops Q S T stop fuel (listed.setIfInBounds i true) (a.put oi.dst v) w) : OrdTo P md ops Q S T stop (fuel + 1) listed a w := by
  simp only [Bool.and_eq_true, Bool.not_eq_true'] at hc
  obtain ⟨⟨⟨⟨h1, h2⟩, h3⟩, h4⟩, h5⟩ := hc
  obtain ⟨os, ho, hwt⟩ := waitsB_spec h4
  exact OrdTo.first hi ho hwt (Region.noSelect_spec h1) hQ fuel listed a w (Region.free_spec hi h2) (by simpa using h3) (.inl ⟨hw, fun w h => hy w h.1 h.2⟩) hS hT h5 h
/-- Number i, which reads what nobody here writes, or nothing, is taken first. -/
theorem OrdTo.takePure (i : Nat) {oi : Oper} {v : Value} {fuel : Nat} {listed : Array Bool} {a : Act} {w : World} (hi : ops[i]? = some oi)
    (hc : (Region.noSelect ops && Region.free md ops listed i && (Region.ready md ops listed).contains i && i != stop) = true)
    (hQ : ∀ c a w, Q (.panic c) (a.put oi.dst v) w → Q (.panic c) a w) (hS : listed.getD stop true = false → S w) (hT : T w) (hw : Region.wanted oi (yielded ops a.tmps) = true) (hy : ∀ w, T w → (execOp a.eval oi).run P w = .ok (.value v) w)
    (h : OrdTo P md ops Q S T stop fuel (listed.setIfInBounds i true) (a.put oi.dst v) w) : OrdTo P md ops Q S T stop (fuel + 1) listed a w := by
  simp only [Bool.and_eq_true, bne_iff_ne, ne_eq] at hc
  obtain ⟨⟨⟨h1, h2⟩, h3⟩, h5⟩ := hc
  exact OrdTo.firstPure hi h5 (Region.noSelect_spec h1) hQ fuel listed a w (Region.free_spec hi h2) (by simpa using h3) (.inl ⟨hw, hy⟩) hS hT h
theorem OrdTo.done {fuel : Nat} {listed : Array Bool} {a : Act} {w : World} (hr : Region.ready md ops listed = []) (h : Q .normal a w) : OrdTo P md ops Q S T stop fuel listed a w := by
  cases fuel with
  | zero => exact ⟨hr, h⟩
  | succ n => exact ⟨fun _ => h, by rw [hr]; simp⟩
/-- Just one may come up. -/
theorem OrdTo.only (i : Nat) {fuel : Nat} {listed : Array Bool} {a : Act} {w : World} (hr : Region.ready md ops listed = [i]) (h : wpOp P ops Q i (fun a' w' => ((listed.setIfInBounds i true).getD stop true = false → S w') ∧ T w' ∧ OrdTo P md ops Q S T stop fuel (listed.setIfInBounds i true) a' w') a w) : OrdTo P md ops Q S T stop (fuel + 1) listed a w := by
  refine ⟨fun h0 => ?_, fun j hj => ?_⟩
  · rw [hr] at h0; cases h0
  · rw [hr] at hj; simp at hj; rw [hj]; exact h
/-- Just one may come up, and is carried out. -/
theorem OrdTo.step (i : Nat) {oi : Oper} {fuel : Nat} {listed : Array Bool} {a : Act} {w : World} (hi : ops[i]? = some oi) (hr : Region.ready md ops listed = [i]) (hw : Region.wanted oi (yielded ops a.tmps) = true)
    (h : ∀ K : Act → World → Prop, (∀ a' w', ((listed.setIfInBounds i true).getD stop true = false → S w') → T w' → OrdTo P md ops Q S T stop fuel (listed.setIfInBounds i true) a' w' → K a' w') → Oper.wp P oi a w K Q) : OrdTo P md ops Q S T stop (fuel + 1) listed a w := by
  refine OrdTo.only i hr ?_
  unfold wpOp
  simp only [hi, hw, if_true]
  exact .inl (h _ fun a' w' h1 h2 h3 => ⟨h1, h2, h3⟩)
theorem OrdTo.begin_ (S T : World → Prop) (stop : Nat) {id : Nat} {a : Act} {w : World} (hm : P.follows .mixedOrders = true) (h : OrdTo P .any ops Q S T stop ops.size (Array.replicate ops.size false) a w.drew) : (Code.region id ops true).wp P Q a w :=
  wp_region_any hm (OrdTo.any _ _ _ _ h)
theorem cell_far {w : World} {p q : Addr} {v : Value} (h : w.cell? p = some v) (hne : p.block ≠ q.block) (u : Value) : (w.setCell q u).cell? p = some v :=
  (World.cell?_of_block (Go.RowKit.Below.heap_setCell w q u p.block hne)).trans h
end
end Go.Proofs.Ytddmifbgbmjdaab
