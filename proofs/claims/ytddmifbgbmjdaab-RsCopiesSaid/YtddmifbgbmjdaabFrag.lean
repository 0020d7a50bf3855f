/- Slices of fragments: two cells an element. -/
import Derived.Test.YtddmifbgbmjdaabRs3
import Derived.Test.YtddmifbgbmjdaabSets
set_option linter.unusedVariables false
set_option linter.unusedSimpArgs false
namespace Go.Proofs.Ytddmifbgbmjdaab
open Go.RowKit

def flat (fr : List (Int × Value)) : List Value := fr.flatMap fun p => [.int .i64 p.1, p.2]
theorem flat_length (fr : List (Int × Value)) : (flat fr).length = fr.length * 2 := by
  induction fr with
  | nil => rfl
  | cons p t ih => simp only [flat, List.flatMap_cons, List.length_append, List.length_cons, List.length_nil] at *; omega
theorem flat_at : ∀ (fr : List (Int × Value)) (i : Nat) (h : i < fr.length), (flat fr)[i * 2]? = some (.int .i64 fr[i].1) ∧ (flat fr)[i * 2 + 1]? = some fr[i].2
  | p :: t, 0, _ => ⟨rfl, rfl⟩
  | p :: t, i + 1, h => by
    have := flat_at t i (by simpa using h)
    have e : flat (p :: t) = .int .i64 p.1 :: p.2 :: flat t := rfl
    rw [e, show (i + 1) * 2 = i * 2 + 1 + 1 from by omega, show i * 2 + 1 + 1 + 1 = (i * 2 + 1) + 1 + 1 from rfl]
    simpa using this
/-- A slice of fragments that reads so. -/
def FragR (P : Nat → Prop) (w : World) (v : Value) (fr : List (Int × Value)) : Prop :=
  ∃ A c, v = .slice A fr.length c ∧ (fr.length ≤ c ∧ c ≤ 9223372036854775807) ∧ Rd P w A (flat fr)
abbrev FragO (w : World) (base : Nat) (v : Value) (fr : List (Int × Value)) : Prop := w.ownsRow base 51 2 v fr.length (flat fr)
section
variable {P Q : Nat → Prop} {w w' : World} {v : Value} {fr : List (Int × Value)} {base : Nat}
theorem FragR.fr_ (h : FragR P w v fr) (hf : Fr Q w w') (hq : ∀ k, P k → Q k) : FragR P w' v fr := by
  obtain ⟨A, c, rfl, hl, hr⟩ := h
  refine ⟨A, c, rfl, hl, fun j u hu => ?_⟩
  obtain ⟨ad, e, hp, hc⟩ := hr j u hu
  exact ⟨ad, e, hp, hf.cell (by rw [add_block]; exact hq _ hp) hc⟩
theorem FragR.mono (h : FragR P w v fr) (hq : ∀ k, P k → Q k) : FragR Q w v fr := by
  obtain ⟨A, c, rfl, hl, hr⟩ := h
  refine ⟨A, c, rfl, hl, fun j u hu => ?_⟩
  obtain ⟨ad, e, hp, hc⟩ := hr j u hu
  exact ⟨ad, e, hq _ hp, hc⟩
theorem FragR.below (h : FragR P w v fr) (hb : Below w.heap.size w w') : FragR P w' v fr := h.fr_ (Fr.of_below hb P) fun _ hk => hk
theorem FragR.there (h : FragR P w v fr) : FragR (fun k => P k ∧ k < w.heap.size) w v fr := by
  obtain ⟨A, c, rfl, hl, hr⟩ := h
  refine ⟨A, c, rfl, hl, fun j u hu => ?_⟩
  obtain ⟨ad, e, hp, hc⟩ := hr j u hu
  have := World.block_lt_of_cell? w _ hc
  rw [add_block] at this
  exact ⟨ad, e, ⟨hp, this⟩, hc⟩
theorem FragR.shape (h : FragR P w v fr) : ∃ A c, v = .slice A fr.length c ∧ fr.length ≤ c ∧ c ≤ 9223372036854775807 := by
  obtain ⟨A, c, rfl, h, _⟩ := h
  exact ⟨A, c, rfl, h⟩
theorem FragR.at_ {A : Option Addr} {n c : Nat} (h : FragR P w (.slice A n c) fr) (i : Nat) (hi : i < fr.length) : ∃ ad, A = some ad ∧ P ad.block ∧ w.cell? (ad.add (i * 2)) = some (.int .i64 fr[i].1) ∧ w.cell? (ad.add (i * 2 + 1)) = some fr[i].2 ∧ w.cell? ((ad.add (i * 2)).add 1) = some fr[i].2 := by
  obtain ⟨A', c', e, hl, hr⟩ := h
  simp only [Value.slice.injEq] at e
  obtain ⟨rfl, -, -⟩ := e
  obtain ⟨h1, h2⟩ := flat_at fr i hi
  obtain ⟨ad, e, hp, hc⟩ := hr _ _ h1
  obtain ⟨ad2, e2, hp2, hc2⟩ := hr _ _ h2
  subst e
  cases e2
  exact ⟨ad, rfl, hp, hc, hc2, by rw [add_add]; exact hc2⟩
theorem FragO.reads (h : FragO w base v fr) : FragR (fun k => v.ownBlock = some k) w v fr := by
  rcases h.2 with ⟨rfl, hn⟩ | ⟨g, cap, cur, rfl, hb, hh, hnc, hcm, hcs, ht⟩
  · have : fr = [] := List.eq_nil_of_length_eq_zero hn
    subst this
    exact ⟨none, 0, rfl, by simp, fun j u hu => by simp [flat] at hu⟩
  · refine ⟨_, cap, rfl, ⟨hnc, by simp only [maxLen] at hcm; omega⟩, ?_⟩
    show Rd (fun k => some g = some k) w _ _
    refine Rd.row (P := fun k => some g = some k) w g cur 51 (0, 0) hh rfl 0 _ fun j u hu => ?_
    rw [← ht] at hu
    rw [List.getElem?_take] at hu
    split at hu
    · simpa using hu
    · cases hu
theorem FragO.base_le (h : FragO w base v fr) : ∀ k, v.ownBlock = some k → base ≤ k ∧ k < w.heap.size := World.ownsRow.lt h
theorem FragO.keep (h : FragO w base v fr) (hf : Fr (fun k => v.ownBlock = some k) w w') : FragO w' base v fr := by
  refine ⟨h.1, ?_⟩
  rcases h.2 with hn | ⟨g, cap, cur, rfl, hb, hh, r⟩
  · exact .inl hn
  · exact .inr ⟨g, cap, cur, rfl, hb, by rw [hf.block g (Array.getElem?_eq_some_iff.1 hh).1 rfl]; exact hh, r⟩
theorem FragO.keep_below (h : FragO w base v fr) (hb : Below w.heap.size w w') : FragO w' base v fr := h.keep (Fr.of_below hb _)
theorem FragO.nil (w : World) (base : Nat) : FragO w base (.slice none 0 0) [] := World.ownsRow_nil w base _ 2
end
theorem info_frag : (Try.prog.info? 51).map (fun i => (i.zero, i.size, i.bytes)) = some (some (.agg #[.int .i64 0, .slice none 0 0]), 2, 32) := by kernel_rfl

theorem run_load_frag (w : World) (ad : Addr) (z : Int) (d : Value) (h1 : w.cell? ad = some (.int .i64 z)) (h2 : w.cell? (ad.add 1) = some d) :
    (Instr.loadAt 51 (.pointer (some ad))).run Try.prog w = .ok (.agg #[.int .i64 z, d]) w := by
  have hl : (loadCells ad 2).run Try.prog w = .ok #[.int .i64 z, d] w :=
    run_loadCells_list (P := Try.prog) w ad [.int .i64 z, d] (fun j v hv => by
      rcases j with _ | _ | j
      · simp at hv; subst hv; rw [add_zero]; exact h1
      · simp at hv; subst hv; exact h2
      · simp at hv)
  obtain ⟨i0, hi, hzz⟩ := Option.map_eq_some_iff.1 info_frag
  simp only [Prod.mk.injEq] at hzz
  have hagg : (isAgg 51).run Try.prog w = .ok true w := by
    unfold isAgg
    rw [Sem.run_bind, run_underlying Try.underlying51 w]
    rfl
  simp only [Instr.loadAt, Instr.sureAddr, Sem.run_bind, Sem.run_pure, Result.andThen_ok]
  simp [loadVar, Sem.run_bind, hagg, sizeOf, typeInfo, hi, hzz.2.1, hl]
theorem wpList_load_frag {ops : Array Oper} {rest : List Oper} {o : Oper} {a : Act} {Q : Exit → Act → World → Prop} {w : World} (hgd : o.guard = none) (x : Operand) (ho : o.op = .load 51 x) (ad : Addr) (hx : a.eval x = .pointer (some ad)) (z : Int) (d : Value) (h1 : w.cell? ad = some (.int .i64 z)) (h2 : w.cell? (ad.add 1) = some d)
    (h : wpList Try.prog ops Q rest (a.put o.dst (.agg #[.int .i64 z, d])) w) : wpList Try.prog ops Q (o :: rest) a w := by
  refine wpList_plain hgd fun K hK => ?_
  unfold Oper.wp execOp
  simp only [ho, hx, Sem.run_bind, Sem.run_pure, Result.andThen_ok, run_load_frag w ad z d h1 h2]
  exact hK _ _ h
theorem ret_eq (a b : Int) : Ending.returned (.bool (a == b)) = .returned (.bool (decide (a = b))) := by
  congr 2
theorem chosen1_calls (g : Nat) (z z' : Int) (d : Value) (w : World) (hd : ∃ A n c, d = .slice A n c) (hf : w.cell? ⟨g, 0, none⟩ = some (.int .i64 z)) :
    Calls Try.prog 66 #[.agg #[.int .i64 z', d], .pointer (some ⟨g, 0, none⟩)] w fun e w' => e = .returned (.bool (decide (z' = z))) ∧ Below w.heap.size w w' := by
  obtain ⟨A, n, c, rfl⟩ := hd
  have h2 : (w.alloc (.cells #[.int .i64 z', .slice A n c] 51)).cell? ⟨g, 0, none⟩ = some (.int .i64 z) := by
    have := ((Below.refl w.heap.size w).alloc (Nat.le_refl _) (.cells #[.int .i64 z', .slice A n c] 51)).cell (World.block_lt_of_cell? w _ hf)
    rw [this]; exact hf
  go_enter Try.func66, Try.ntmps66
  go_wp2_with fail
  go_ret
  exact ⟨ret_eq z' z, (Below.refl _ _).alloc (Nat.le_refl _) _⟩
set_option maxHeartbeats 2000000 in
theorem idxfrag_calls (g : Nat) (z : Int) (v : Value) (fr : List (Int × Value)) (P : Nat → Prop) (w : World) (hv : FragR P w v fr) (hs : ∀ i (h : i < fr.length), ∃ A n c, fr[i].2 = .slice A n c) (hf : w.cell? ⟨g, 0, none⟩ = some (.int .i64 z)) :
    Calls Try.prog 67 #[v, .func (.func 66) #[] #[.pointer (some ⟨g, 0, none⟩)]] w fun e w' => (∃ i : Int, e = .returned (.int .i64 i) ∧ Hid (decide (0 ≤ i) = decide (∃ p ∈ fr, p.1 = z))) ∧ Below w.heap.size w w' := by
  have Hv := Lib.hid hv
  have Hs := Lib.hid hs
  have Hf := Lib.hid hf
  have HB0 : Hid (Below w.heap.size w w) := Below.refl _ _
  obtain ⟨A, c, rfl, hl1, hl2⟩ := hv.shape
  clear hv hs hf
  go_enter Try.func67, Try.ntmps67
  go_wp2_with fail
  go_loopw [5, 8] (fun _ i wr => ∃ k : Nat, k ≤ fr.length ∧ i = .int .i64 k ∧ Hid (∀ j (h : j < fr.length), j < k → fr[j].1 ≠ z) ∧ Hid (Below w.heap.size w wr)) (fun _ i _ => fr.length - (intOf i).toNat)
  case atStart => exact ⟨0, Nat.zero_le _, rfl, fun j _ hj => absurd hj (by omega), HB0⟩
  case round =>
    obtain ⟨k, hk, rfl, hn, HB⟩ := hrel
    clear HB0
    by_cases hlt : k < fr.length
    · obtain ⟨ad, rfl, hp, hc1, hc2, hc3⟩ := (Hv.out.below HB.out).at_ k hlt
      have hg : Hid (wr.cell? ⟨g, 0, none⟩ = some (.int .i64 z)) := Lib.hid (by rw [HB.out.cell (World.block_lt_of_cell? w _ Hf.out)]; exact Hf.out)
      obtain ⟨A2, n2, c2, he⟩ := Hs.out k hlt
      rw [he] at hc2 hc3
      generalize hpk : fr[k].1 = q at *
      have Hpk := Lib.hid hpk
      clear hpk he
      go_wp2_with (refine wpList_load_frag rfl _ rfl (ad.add (k * 2)) rfl q (.slice A2 n2 c2) hc1 hc3 ?_)
      refine (chosen1_calls g z q _ _ ⟨_, _, _, rfl⟩ hg.out).mono ?_
      rintro e w1 ⟨rfl, hb1⟩
      have HB1 : Hid (Below w.heap.size w w1) := HB.out.trans (hb1.mono HB.out.size)
      clear hb1
      by_cases hqz : q = z
      · have hd : decide (q = z) = true := decide_eq_true hqz
        rw [hd]
        have Hq := Lib.hid hqz
        clear hqz hd
        go_wp2_with fail
        go_ret
        exact ⟨⟨_, rfl, by
          show decide _ = decide _
          rw [decide_eq_true (by omega), decide_eq_true ⟨fr[k], List.getElem_mem hlt, Hpk.out.trans Hq.out⟩]⟩, HB1.out⟩
      · have hd : decide (q = z) = false := decide_eq_false hqz
        rw [hd]
        have Hq := Lib.hid hqz
        clear hqz hd
        go_wp2_with fail
        go_roundw
        case rel => exact ⟨k + 1, by omega, by go_num, fun j h hj => by
          by_cases e : j = k
          · subst e; rw [Hpk.out]; exact Hq.out
          · exact hn.out j h (by omega), HB1⟩
        case measure => simp [intOf]; omega
    · obtain rfl : k = fr.length := by omega
      go_wp2_with fail
      go_ret
      exact ⟨⟨_, rfl, by
        show decide _ = decide _
        rw [decide_eq_false (by omega), decide_eq_false (fun ⟨p, hp, e⟩ => by
          obtain ⟨j, hj, rfl⟩ := List.getElem_of_mem hp
          exact hn.out j hj hj e)]⟩, HB.out⟩
theorem contfrag_calls (g : Nat) (z : Int) (v : Value) (fr : List (Int × Value)) (P : Nat → Prop) (w : World) (hv : FragR P w v fr) (hs : ∀ i (h : i < fr.length), ∃ A n c, fr[i].2 = .slice A n c) (hf : w.cell? ⟨g, 0, none⟩ = some (.int .i64 z)) :
    Calls Try.prog 65 #[v, .func (.func 66) #[] #[.pointer (some ⟨g, 0, none⟩)]] w fun e w' => e = .returned (.bool (decide (∃ p ∈ fr, p.1 = z))) ∧ Below w.heap.size w w' := by
  have Hv := Lib.hid hv
  have Hs := Lib.hid hs
  have Hf := Lib.hid hf
  obtain ⟨A, c, rfl, hl1, hl2⟩ := hv.shape
  clear hv hs hf
  go_enter Try.func65, Try.ntmps65
  go_wp2_with fail
  refine (idxfrag_calls g z _ fr P _ Hv.out Hs.out Hf.out).mono ?_
  rintro e w' ⟨⟨i, rfl, hi⟩, hb⟩
  have HB := Lib.hid hb
  clear hb
  go_wp2_with fail
  go_ret
  exact ⟨by rw [← hi.out]; rfl, HB.out⟩
/-- The law for an append of one fragment: behind 'at_builtin'. -/
theorem wpList_append_frag {ops : Array Oper} {rest : List Oper} {o : Oper} {a : Act} {Q : Exit → Act → World → Prop} {w : World} (base : Nat) (s x : Operand)
    (ho : o.op = .call { callee := .builtin .append, args := #[s, x], argTypes := #[49, 49] }) (hgd : o.guard = none) (v : Value) (z : Int) (A : Option Addr) (n c : Nat) (l : List (Int × Value)) (HO : FragO w base v l)
    (g : Nat) (hg : g = w.heap.size) (hs : a.eval s = v) (hx : a.eval x = .slice (some ⟨g, 0, none⟩) 1 1) (hbase : base ≤ w.heap.size) (hl : l.length ≤ 1000000)
    (h : ∀ v1 w1, FragO w1 base v1 (l ++ [(z, .slice A n c)]) → Fr (fun j => some j ≠ v.ownBlock) w w1 → wpList Try.prog ops Q rest (a.put o.dst v1) w1) :
    wpList Try.prog ops Q (o :: rest) a (w.alloc (.cells #[.int .i64 z, .slice A n c] 51)) := by
  subst hg
  have hb : Below w.heap.size w (w.alloc (.cells #[.int .i64 z, .slice A n c] 51)) := (Below.refl _ _).alloc (Nat.le_refl _) _
  obtain ⟨i0, hi, hzz⟩ := Option.map_eq_some_iff.1 info_frag
  simp only [Prod.mk.injEq] at hzz
  refine wpList_append_own _ hgd s x 49 ho base 51 i0 (.agg #[.int .i64 0, .slice none 0 0]) 2 32 Try.underlying49 hi hzz.1 hzz.2.1 hzz.2.2 rfl (by omega) v l.length (flat l) hs (HO.keep_below hb) ⟨w.heap.size, 0, none⟩ 1 1 [.int .i64 z, .slice A n c] hx rfl ?_ (by intro u hu; simp at hu; rcases hu with rfl | rfl <;> rfl) (by simp only [maxLen]; omega) (by omega) (by have := hb.size; omega) ?_
  · intro j u hu
    rw [show (⟨w.heap.size, 0, none⟩ : Addr).add j = ⟨w.heap.size, j, none⟩ from by unfold Addr.add; split <;> simp_all]
    rw [cell_of_row _ _ _ _ _ _ (heap_alloc_new w _)]
    simpa using hu
  · intro v1 w1 h1 h2 _
    refine h v1 w1 ?_ (Fr.trans (Fr.of_below hb _) (Fr.of_grown h2))
    have e : flat (l ++ [(z, .slice A n c)]) = flat l ++ [.int .i64 z, .slice A n c] := by simp [flat]
    unfold FragO
    rw [e]
    simpa using h1
end Go.Proofs.Ytddmifbgbmjdaab
