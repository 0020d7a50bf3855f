/- The walks of conf's small functions. -/
import Derived.Test.YtgmiilkdkhlolaaProg
import Derived.Test.YtgmiilkdkhlolaaMem
set_option linter.unusedVariables false
set_option linter.unusedSimpArgs false
namespace Go.Proofs.Ytgmiilkdkhlolaa
open Go.RowKit

/-! ### the plain functions -/
/-- At which place a number stands first; -1: at none. -/
def ixI (l : List Int) (x : Int) : Int := if x ∈ l then (l.idxOf x : Int) else -1
/-- The number at a place. -/
def atI (l : List Int) (p : Int) : Int × Bool := if 0 ≤ p ∧ p < l.length then (l.getD p.toNat 0, true) else (0, false)
theorem ixI_none {l : List Int} {x : Int} (h : ∀ j (hj : j < l.length), l[j] ≠ x) : ixI l x = -1 := by
  unfold ixI
  rw [if_neg]
  intro hm
  obtain ⟨j, hj, e⟩ := List.getElem_of_mem hm
  exact h j hj e
theorem ixI_at {l : List Int} {x : Int} (k : Nat) (hk : k < l.length) (e : l[k] = x) (h : ∀ j (hj : j < k), l[j] ≠ x) : ixI l x = k := by
  have hm : x ∈ l := by rw [← e]; exact List.getElem_mem hk
  unfold ixI
  rw [if_pos hm]
  have hlt := List.idxOf_lt_length_of_mem hm
  have hat : l[l.idxOf x] = x := List.getElem_idxOf hlt
  have h1 : ¬ l.idxOf x < k := fun hc => h _ hc hat
  have h2 : ¬ k < l.idxOf x := fun hc => by
    have := List.not_of_lt_findIdx (p := (· == x)) (xs := l) hc
    simp [e] at this
  have : l.idxOf x = k := by omega
  rw [this]
theorem ixI_range (l : List Int) (x : Int) : -1 ≤ ixI l x ∧ ixI l x < l.length := by
  unfold ixI
  split
  · rename_i h
    have := List.idxOf_lt_length_of_mem h
    omega
  · omega
theorem ixI_mem (l : List Int) (x : Int) : 0 ≤ ixI l x ↔ x ∈ l := by
  unfold ixI
  split
  · rename_i h; exact ⟨fun _ => h, fun _ => by omega⟩
  · rename_i h; exact ⟨fun h' => by omega, fun h' => absurd h' h⟩

set_option maxHeartbeats 400000 in
theorem index_calls (v : Value) (l : List Int) (x : Int) (P : Nat → Prop) (w : World) (hv : Ints P w v l) :
    Calls Try.prog 31 #[v, .int .i64 x] w fun e w' => e = .returned (.int .i64 (ixI l x)) ∧ w = w' := by
  obtain ⟨A, cp, rfl, hl, hc⟩ := hv
  go_enter Try.func31, Try.ntmps31
  go_wp2_with fail
  go_loop [8] (fun i => ∃ k : Nat, k ≤ l.length ∧ i = .int .i64 k ∧ Hid (∀ j (hj : j < l.length), j < k → l[j] ≠ x)) (fun i => l.length - (intOf i).toNat)
  case atStart => exact ⟨0, Nat.zero_le _, rfl, fun j _ hj => absurd hj (by omega)⟩
  case round =>
    obtain ⟨k, hk, rfl, hno⟩ := hrel
    by_cases hlt : k < l.length
    · obtain ⟨ad, rfl, hb, hcell⟩ := rd_int hc k hlt
      by_cases he : l[k] = x
      · have hx : (x == l[k]) = true := by rw [he]; simp
        have Hr := Lib.hid (ixI_at k hlt he (fun j hj => hno.out j (by omega) hj))
        clear he
        go_wp2_with fail
        go_ret
        exact ⟨by rw [Hr.out]; rfl, rfl⟩
      · have hx : (x == l[k]) = false := by simp; exact fun e => he e.symm
        have Hn : Hid (∀ j (hj : j < l.length), j < k + 1 → l[j] ≠ x) := fun j hj h => by
          by_cases e : j = k
          · subst e; exact he
          · exact hno.out j hj (by omega)
        clear he
        go_wp2_with fail
        go_round
        case rel => exact ⟨k + 1, by omega, by go_num, Hn⟩
        case measure => simp [intOf]; omega
    · have Hr := Lib.hid (ixI_none (l := l) (x := x) (fun j hj => hno.out j hj (by omega)))
      go_wp2_with fail
      go_ret
      exact ⟨by rw [Hr.out]; rfl, rfl⟩
set_option maxHeartbeats 400000 in
theorem contains_calls (v : Value) (l : List Int) (x : Int) (P : Nat → Prop) (w : World) (hv : Ints P w v l) :
    Calls Try.prog 29 #[v, .int .i64 x] w fun e w' => e = .returned (.bool (decide (0 ≤ ixI l x))) ∧ w = w' := by
  have Hv := Lib.hid hv
  clear hv
  go_enter Try.func29, Try.ntmps29
  go_wp2_with fail
  refine (index_calls v l x P _ Hv.out).mono ?_
  rintro e w' ⟨rfl, rfl⟩
  go_wp2_with fail
  go_ret
  exact ⟨rfl, rfl⟩
set_option maxHeartbeats 400000 in
theorem at_calls (z : Int) (v : Value) (l : List Int) (p : Int) (P : Nat → Prop) (w : World) (hv : Ints P w v l) :
    Calls Try.prog 30 #[.agg #[.int .i64 z, v], .int .i64 p] w fun e w' => e = .returned (.tuple #[.int .i64 (atI l p).1, .bool (atI l p).2]) ∧ Below w.heap.size w w' := by
  have hv1 := hv.below ((Below.refl w.heap.size w).alloc (Nat.le_refl _) (.cells #[.int .i64 z, v] 24))
  obtain ⟨A, cp, rfl, hl, hc⟩ := hv1
  clear hv
  by_cases h0 : 0 ≤ p ∧ p < l.length
  · have Ha : Hid (atI l p = (l.getD p.toNat 0, true)) := by unfold atI; rw [if_pos h0]; exact rfl
    obtain ⟨h1, h2⟩ := h0
    obtain ⟨k, rfl⟩ := Int.eq_ofNat_of_zero_le h1
    obtain ⟨ad, rfl, hb, hcell⟩ := rd_int hc k (by omega)
    have Hg : Hid (l.getD k 0 = l[k]'(by omega)) := by simp [List.getD_eq_getElem?_getD, List.getElem?_eq_getElem (show k < l.length from by omega), Hid]
    go_enter Try.func30, Try.ntmps30
    go_wp2_with fail
    go_ret2
    refine ⟨?_, (Below.refl _ _).alloc (Nat.le_refl _) _⟩
    rw [Ha.out, Int.toNat_natCast, Hg.out]
    rfl
  · have Ha : Hid (atI l p = (0, false)) := by unfold atI; rw [if_neg h0]; exact rfl
    clear hc
    by_cases h1 : p < 0
    · clear h0
      go_enter Try.func30, Try.ntmps30
      go_wp2_with fail
      go_ret2
      exact ⟨by rw [Ha.out]; rfl, (Below.refl _ _).alloc (Nat.le_refl _) _⟩
    · have h2 : (l.length : Int) ≤ p := by omega
      clear h0
      go_enter Try.func30, Try.ntmps30
      go_wp2_with fail
      go_ret2
      exact ⟨by rw [Ha.out]; rfl, (Below.refl _ _).alloc (Nat.le_refl _) _⟩

set_option maxHeartbeats 400000 in
theorem head_calls (z : Int) (v : Value) (l : List Int) (P : Nat → Prop) (w : World) (hv : Ints P w v l) :
    Calls Try.prog 15 #[.agg #[.int .i64 z, v]] w fun e w' => e = .returned (.tuple #[.int .i64 (atI l 0).1, .bool (atI l 0).2]) ∧ Below w.heap.size w w' := by
  have Hv1 := Lib.hid (hv.below ((Below.refl w.heap.size w).alloc (Nat.le_refl _) (.cells #[.int .i64 z, v] 24)))
  clear hv
  go_enter Try.func15, Try.ntmps15
  go_wp2_with fail
  refine (at_calls z v l 0 P _ Hv1.out).mono ?_
  rintro e w' ⟨rfl, hb⟩
  go_wp2_with fail
  go_ret2
  exact ⟨rfl, ((Below.refl _ _).alloc (Nat.le_refl _) _).trans (hb.mono (by simp))⟩
set_option maxHeartbeats 400000 in
theorem tail_calls (z : Int) (v : Value) (l : List Int) (P : Nat → Prop) (w : World) (hv : Ints P w v l) :
    Calls Try.prog 19 #[.agg #[.int .i64 z, v]] w fun e w' => e = .returned (.tuple #[.int .i64 (atI l (l.length - 1)).1, .bool (atI l (l.length - 1)).2]) ∧ Below w.heap.size w w' := by
  have Hv1 := Lib.hid (hv.below ((Below.refl w.heap.size w).alloc (Nat.le_refl _) (.cells #[.int .i64 z, v] 24)))
  obtain ⟨A, cp, rfl, hl, hc⟩ := hv
  clear hc
  go_enter Try.func19, Try.ntmps19
  go_wp2_with fail
  refine (at_calls z _ l (l.length - 1) P _ Hv1.out).mono ?_
  rintro e w' ⟨rfl, hb⟩
  go_wp2_with fail
  go_ret2
  exact ⟨rfl, ((Below.refl _ _).alloc (Nat.le_refl _) _).trans (hb.mono (by simp))⟩
/-- At which position, and whether at any. -/
def posI (l : List Int) (x : Int) : Int × Bool := (if ixI l x < 0 then 0 else ixI l x, decide (0 ≤ ixI l x))
set_option maxHeartbeats 400000 in
theorem pos_calls (z : Int) (v : Value) (l : List Int) (x : Int) (P : Nat → Prop) (w : World) (hv : Ints P w v l) :
    Calls Try.prog 16 #[.agg #[.int .i64 z, v], .int .i64 x] w fun e w' => e = .returned (.tuple #[.int .i64 (posI l x).1, .bool (posI l x).2]) ∧ Below w.heap.size w w' := by
  have Hv1 := Lib.hid (hv.below ((Below.refl w.heap.size w).alloc (Nat.le_refl _) (.cells #[.int .i64 z, v] 24)))
  clear hv
  go_enter Try.func16, Try.ntmps16
  go_wp2_with fail
  refine (index_calls v l x P _ Hv1.out).mono ?_
  rintro e w' ⟨rfl, rfl⟩
  have Hr : Hid (posI l x = (if ixI l x < 0 then 0 else ixI l x, decide (0 ≤ ixI l x))) := rfl
  generalize ixI l x = i at *
  by_cases h : i < 0
  · go_wp2_with fail
    go_ret2
    refine ⟨?_, (Below.refl _ _).alloc (Nat.le_refl _) _⟩
    rw [Hr.out]
    simp [h]
  · have h2 : 0 ≤ i := by omega
    go_wp2_with fail
    go_ret2
    refine ⟨?_, (Below.refl _ _).alloc (Nat.le_refl _) _⟩
    rw [Hr.out, if_neg (by omega)]
    simp [h2]
    try omega
/-- The one beside, by so many. -/
def besI (l : List Int) (x by_ : Int) : Int × Bool := if 0 ≤ ixI l x then atI l (ixI l x + by_) else (0, false)
set_option maxHeartbeats 400000 in
theorem beside_calls (z : Int) (v : Value) (l : List Int) (x d : Int) (hd : d = 1 ∨ d = -1) (P : Nat → Prop) (w : World) (hv : Ints P w v l) :
    Calls Try.prog 32 #[.agg #[.int .i64 z, v], .int .i64 x, .int .i64 d] w fun e w' => e = .returned (.tuple #[.int .i64 (besI l x d).1, .bool (besI l x d).2]) ∧ Below w.heap.size w w' := by
  have Hv1 := Lib.hid (hv.below ((Below.refl w.heap.size w).alloc (Nat.le_refl _) (.cells #[.int .i64 z, v] 24)))
  have hlen : l.length ≤ 9223372036854775807 := by obtain ⟨A, cp, rfl, hl, hc⟩ := hv; omega
  clear hv
  have hd1 : -1 ≤ d := by omega
  have hd2 : d ≤ 1 := by omega
  clear hd
  go_enter Try.func32, Try.ntmps32
  go_wp2_with fail
  refine (pos_calls z v l x P _ Hv1.out).mono ?_
  rintro e w' ⟨rfl, hb⟩
  have hr := ixI_range l x
  have Hp : Hid (posI l x = (if ixI l x < 0 then 0 else ixI l x, decide (0 ≤ ixI l x))) := rfl
  have Hb : Hid (besI l x d = if 0 ≤ ixI l x then atI l (ixI l x + d) else (0, false)) := rfl
  generalize ixI l x = i at *
  have hbel : Below w.heap.size w w' := ((Below.refl _ _).alloc (Nat.le_refl _) _).trans (hb.mono (by simp))
  have Hv2 := Lib.hid (Hv1.out.below hb)
  have hbox : ∀ j, w'.cell? ⟨w.heap.size, j, none⟩ = (#[Value.int .i64 z, v] : Array Value)[j]? := fun j => by
    rw [hb.cell (p := ⟨w.heap.size, j, none⟩) (by simp)]
    simp
  have hc0 := hbox 0
  have hc1 := hbox 1
  clear hbox
  simp at hc0 hc1
  rw [Hp.out]
  obtain ⟨h1, h2⟩ := hr
  by_cases h : i < 0
  · have h3 : ¬ (0 ≤ i) := by omega
    simp only [h, h3, if_true, if_false, decide_false]
    go_wp2_with fail
    go_ret2
    exact ⟨by rw [Hb.out, if_neg (by omega)]; rfl, hbel⟩
  · have h3 : 0 ≤ i := by omega
    simp only [h, h3, if_true, if_false, decide_true]
    go_wp2_with fail
    refine (at_calls z v l (i + d) P _ Hv2.out).mono ?_
    rintro e w2 ⟨rfl, hb2⟩
    go_wp2_with fail
    go_ret2
    exact ⟨by rw [Hb.out, if_pos (by omega)]; rfl, hbel.trans (hb2.mono hbel.size)⟩
set_option maxHeartbeats 400000 in
theorem next_calls (z : Int) (v : Value) (l : List Int) (x : Int) (P : Nat → Prop) (w : World) (hv : Ints P w v l) :
    Calls Try.prog 17 #[.agg #[.int .i64 z, v], .int .i64 x] w fun e w' => e = .returned (.tuple #[.int .i64 (besI l x 1).1, .bool (besI l x 1).2]) ∧ Below w.heap.size w w' := by
  have Hv1 := Lib.hid (hv.below ((Below.refl w.heap.size w).alloc (Nat.le_refl _) (.cells #[.int .i64 z, v] 24)))
  clear hv
  go_enter Try.func17, Try.ntmps17
  go_wp2_with fail
  refine (beside_calls z v l x 1 (.inl rfl) P _ Hv1.out).mono ?_
  rintro e w' ⟨rfl, hb⟩
  go_wp2_with fail
  go_ret2
  exact ⟨rfl, ((Below.refl _ _).alloc (Nat.le_refl _) _).trans (hb.mono (by simp))⟩
set_option maxHeartbeats 400000 in
theorem prev_calls (z : Int) (v : Value) (l : List Int) (x : Int) (P : Nat → Prop) (w : World) (hv : Ints P w v l) :
    Calls Try.prog 18 #[.agg #[.int .i64 z, v], .int .i64 x] w fun e w' => e = .returned (.tuple #[.int .i64 (besI l x (-1)).1, .bool (besI l x (-1)).2]) ∧ Below w.heap.size w w' := by
  have Hv1 := Lib.hid (hv.below ((Below.refl w.heap.size w).alloc (Nat.le_refl _) (.cells #[.int .i64 z, v] 24)))
  clear hv
  go_enter Try.func18, Try.ntmps18
  go_wp2_with fail
  refine (beside_calls z v l x (-1) (.inr rfl) P _ Hv1.out).mono ?_
  rintro e w' ⟨rfl, hb⟩
  go_wp2_with fail
  go_ret2
  exact ⟨rfl, ((Below.refl _ _).alloc (Nat.le_refl _) _).trans (hb.mono (by simp))⟩

set_option maxHeartbeats 400000 in
theorem rpos_calls (z : Int) (v : Value) (l : List Int) (x : Int) (P : Nat → Prop) (w : World) (hv : Ints P w v l) :
    Calls Try.prog 11 #[.agg #[.int .i64 z, v], .int .i64 x] w fun e w' => e = .returned (.int .i64 (ixI l x)) ∧ Below w.heap.size w w' := by
  have hv1 := hv.below ((Below.refl w.heap.size w).alloc (Nat.le_refl _) (.cells #[.int .i64 z, v] 24))
  obtain ⟨A, cp, rfl, hl, hc⟩ := hv1
  clear hv
  go_enter Try.func11, Try.ntmps11
  go_wp2_with fail
  go_loop [5] (fun i => ∃ k : Nat, k ≤ l.length ∧ i = .int .i64 k ∧ Hid (∀ j (hj : j < l.length), j < k → l[j] ≠ x)) (fun i => l.length - (intOf i).toNat)
  case atStart => exact ⟨0, Nat.zero_le _, rfl, fun j _ hj => absurd hj (by omega)⟩
  case round =>
    obtain ⟨k, hk, rfl, hno⟩ := hrel
    by_cases hlt : k < l.length
    · obtain ⟨ad, rfl, hb, hcell⟩ := rd_int hc k hlt
      by_cases he : l[k] = x
      · have hx : (l[k] == x) = true := by rw [he]; simp
        have Hr := Lib.hid (ixI_at k hlt he (fun j hj => hno.out j (by omega) hj))
        clear he
        go_wp2_with fail
        go_ret
        exact ⟨by rw [Hr.out]; rfl, (Below.refl _ _).alloc (Nat.le_refl _) _⟩
      · have hx : (l[k] == x) = false := by simp [he]
        have Hn : Hid (∀ j (hj : j < l.length), j < k + 1 → l[j] ≠ x) := fun j hj h => by
          by_cases e : j = k
          · subst e; exact he
          · exact hno.out j hj (by omega)
        clear he
        go_wp2_with fail
        go_round
        case rel => exact ⟨k + 1, by omega, by go_num, Hn⟩
        case measure => simp [intOf]; omega
    · have Hr := Lib.hid (ixI_none (l := l) (x := x) (fun j hj => hno.out j hj (by omega)))
      go_wp2_with fail
      go_ret
      exact ⟨by rw [Hr.out]; rfl, (Below.refl _ _).alloc (Nat.le_refl _) _⟩
end Go.Proofs.Ytgmiilkdkhlolaa
