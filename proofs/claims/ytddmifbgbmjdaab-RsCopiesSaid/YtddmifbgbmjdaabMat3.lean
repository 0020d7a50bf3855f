/- The walks of mat.empty, mat.One, mat.Vander. -/
import Derived.Test.YtddmifbgbmjdaabMat2
set_option linter.unusedVariables false
set_option linter.unusedSimpArgs false
namespace Go.Proofs.Ytddmifbgbmjdaab
open Go.RowKit

/-! ### make -/
theorem info_u8m : (Try.prog.info? 5).map (fun i => (i.zero, i.size, i.bytes)) = some (some (.int .u8 0), 1, 1) := by kernel_rfl
theorem info_row : (Try.prog.info? 27).map (fun i => (i.zero, i.size, i.bytes)) = some (some (.slice none 0 0), 1, 24) := by kernel_rfl
theorem wpList_make_sl {P : Program} {ops : Array Oper} {rest : List Oper} {o : Oper} {a : Act} {Q : Exit → Act → World → Prop} {α : Type} {f : α → Value} (w : World)
    (hg : o.guard = none) (l c : Operand) (t e : TypeId) (hop : o.op = Op.makeSlice t l c) (base : Nat) (z : Value) (bytes : Nat) (a0 : α) (hz : f a0 = z) (hzc : z.cells = #[z])
    (ht : P.underlying t = some (.slice e)) (hinfo : (P.info? e).map (fun i => (i.zero, i.size, i.bytes)) = some (some z, 1, bytes)) (n : Nat) (L C : Int) (hl : a.eval l = .int .i64 L) (hc : a.eval c = .int .i64 C) (hL : L = (n : Int)) (hC : C = (n : Int)) (hb : bytes * n ≤ 281474976710656) (hn : n ≤ 9223372036854775807) (hbase : base ≤ w.heap.size)
    (hK : ∀ w', Own f w' base e (.slice (some ⟨w.heap.size, 0, none⟩) n n) (List.replicate n a0) → Below w.heap.size w w' → wpList P ops Q rest (a.put o.dst (.slice (some ⟨w.heap.size, 0, none⟩) n n)) w') : wpList P ops Q (o :: rest) a w := by
  obtain ⟨i0, hi, hzz⟩ := Option.map_eq_some_iff.1 hinfo
  simp only [Prod.mk.injEq] at hzz
  obtain ⟨hz0, hz1, hz2⟩ := hzz
  refine wpList_make_full w hg l c t hop base e i0 z 1 ht hi hz0 hz1 .i64 .i64 L C n hl hc hL hC (by rw [hz2]; exact hb) (by simp only [maxLen]; omega) hbase fun w' ho hgr => hK w' ?_ ?_
  · unfold Own
    rw [hzc, Nat.mul_one, toList_madeCells_one] at ho
    simpa [hz] using ho
  · exact (Fr.of_grown hgr).below (fun k _ => by simp)
theorem replicate_rowL (n : Nat) (a : UInt8) : List.replicate n a = rowL n (fun _ => a) := by
  refine List.ext_getElem (by simp [rowL]) fun k h1 h2 => ?_
  rw [rowL_get, List.getElem_replicate]
theorem Fam.push {w : World} {base k : Nat} {rv : Nat → Value} {L : Nat → List UInt8} (h : Fam w base (· < k) rv L) (nv : Value) (l : List UInt8) (ho : OwnB w base 5 nv l) (hne : ∀ i, i < k → ∀ b, (rv i).ownBlock = some b → nv.ownBlock ≠ some b) :
    Fam w base (· < k + 1) (fun i => if i = k then nv else rv i) (fun i => if i = k then l else L i) := by
  refine ⟨fun i hi => ?_, fun i j hi hj hij b hb => ?_⟩
  · by_cases e : i = k
    · simp only [e, if_true]; exact ho
    · simp only [e, if_false]; exact h.row i (by omega)
  · by_cases e : i = k
    · by_cases e2 : j = k
      · omega
      · rw [if_pos e] at hb
        rw [if_neg e2]
        exact fun h2 => hne j (by omega) b h2 hb
    · rw [if_neg e] at hb
      by_cases e2 : j = k
      · rw [if_pos e2]; exact hne i (by omega) b hb
      · rw [if_neg e2]; exact h.apart i j (by show i < k; omega) (by show j < k; omega) hij b hb
theorem hdr_set (r k : Nat) (rv : Nat → Value) (nv : Value) (hk : k < r) : ((List.range r).map fun i => if i < k then rv i else .slice none 0 0).set k nv = (List.range r).map fun i => if i < k + 1 then (if i = k then nv else rv i) else .slice none 0 0 := by
  refine List.ext_getElem (by simp) fun j h1 h2 => ?_
  simp only [List.getElem_set, List.getElem_map, List.getElem_range]
  by_cases e : k = j
  · subst e; simp
  · rw [if_neg e]
    by_cases e2 : j < k
    · rw [if_pos e2, if_pos (by omega), if_neg (by omega)]
    · rw [if_neg e2, if_neg (by omega)]
set_option maxHeartbeats 2000000 in
theorem empty_calls (r c : Nat) (hr : r ≤ 1000) (hc : c ≤ 1000) (w : World) :
    Calls Try.prog 42 #[.int .i64 (r : Int), .int .i64 (c : Int)] w fun e w' => ∃ v rv, e = .returned v ∧ OwnMat w' w.heap.size v r rv (fun _ => rowL c fun _ => 0) ∧ Below w.heap.size w w' := by
  go_enter Try.func42, Try.ntmps42
  go_wp2_with (at_make; refine wpList_make_sl (f := id) _ rfl _ _ _ 27 rfl w.heap.size (.slice none 0 0) 24 (.slice none 0 0) rfl rfl Try.underlying22 info_row r _ _ rfl rfl rfl rfl (by omega) (by omega) (Nat.le_refl _) ?_; intro w1 ho1 hb1)
  have hO1 := Lib.hid ho1
  have hB1 := Lib.hid hb1
  clear ho1 hb1
  go_loopw [6, 11] (fun _ i wr => ∃ (k : Nat) (rv : Nat → Value), k ≤ r ∧ i = .int .i64 k ∧ Hid (Own id wr w.heap.size 27 (.slice (some ⟨w.heap.size, 0, none⟩) r r) ((List.range r).map fun i => if i < k then rv i else .slice none 0 0)) ∧ Hid (Fam wr w.heap.size (· < k) rv (fun _ => rowL c fun _ => 0)) ∧ Hid (Below w.heap.size w wr)) (fun _ i _ => r - (intOf i).toNat)
  case atStart =>
    refine ⟨0, fun _ => .slice none 0 0, Nat.zero_le _, rfl, Lib.hid ?_, Lib.hid ⟨fun i hi => absurd hi (by omega), fun i j hi => absurd hi (by omega)⟩, hB1⟩
    have := hO1.out
    rw [show List.replicate r (Value.slice none 0 0) = ((List.range r).map fun i => if i < 0 then (fun _ => Value.slice none 0 0) i else .slice none 0 0) from List.ext_getElem (by simp) fun j h1 h2 => by simp] at this
    exact this
  case round =>
    obtain ⟨k, rv, hk, rfl, HO, HF, HB⟩ := hrel
    clear hO1 hB1
    by_cases hlt : k < r
    · have hlt' : (k : Int) < (r : Int) := by omega
      have hsz := HB.out.size
      have hg1 := (HO.out.base_le w.heap.size rfl).2
      go_wp2_with (at_make; refine wpList_make_sl (f := u8v) _ rfl _ _ _ 5 rfl w.heap.size (.int .u8 0) 1 0 rfl rfl Try.underlying27 info_u8m c _ _ rfl rfl rfl rfl (by omega) (by omega) hsz ?_; intro w1 ho1 hb1; obtain ⟨u0, hcz, hfz⟩ : ∃ u0, w1.cell? ⟨w.heap.size, k, none⟩ = some u0 ∧ w1.frozen? ⟨w.heap.size, k, none⟩ = false := ⟨_, Own.cell (HO.out.keep (Fr.of_below hb1 _)) k (by simp; exact hlt)⟩)
      have HO1 := Lib.hid (HO.out.keep (Fr.of_below hb1 (fun j => (Value.slice (some ⟨w.heap.size, 0, none⟩) r r).ownBlock = some j)))
      have HO2 := Lib.hid (Own.stored HO1.out k (.slice (some ⟨wr.heap.size, 0, none⟩) c c))
      rw [hdr_set r k rv _ hlt] at HO2
      have hno : ∀ j, (Value.slice (some ⟨wr.heap.size, 0, none⟩) c c).ownBlock = some j → j = wr.heap.size := fun j h => by simpa [Value.ownBlock] using h.symm
      have HR : Hid (OwnB (w1.setCell ⟨w.heap.size, k, none⟩ (.slice (some ⟨wr.heap.size, 0, none⟩) c c)) w.heap.size 5 (.slice (some ⟨wr.heap.size, 0, none⟩) c c) (rowL c fun _ => 0)) := by
        rw [replicate_rowL] at ho1
        exact ho1.keep ((Fr.refl _ _).setCell (fun _ h => by have := hno _ h; simp at this; omega) _)
      have HF1 : Hid (Fam (w1.setCell ⟨w.heap.size, k, none⟩ (.slice (some ⟨wr.heap.size, 0, none⟩) c c)) w.heap.size (· < k) rv (fun _ => rowL c fun _ => 0)) := (HF.out.keep_below hb1).keep ((Fr.refl _ _).setCell (fun _ ⟨i, hi, h⟩ => own_apart HO1.out ((HF.out.keep_below hb1).row i hi) (by decide) _ rfl h) _)
      have HF2 := Lib.hid (HF1.out.push _ _ HR.out (fun i hi b hb h2 => by have := (HF.out.lt i hi b hb).2; have := hno b h2; omega))
      have HB2 : Hid (Below w.heap.size w (w1.setCell ⟨w.heap.size, k, none⟩ (.slice (some ⟨wr.heap.size, 0, none⟩) c c))) := (HB.out.trans (hb1.mono hsz)).setCell (Nat.le_refl _) _
      clear ho1 hb1
      go_roundw
      case rel => exact ⟨k + 1, _, by omega, by go_num, HO2, Lib.hid (HF2.out.congr _ (fun i _ => by simp)), HB2⟩
      case measure => simp [intOf]; omega
    · obtain rfl : k = r := by omega
      go_wp2_with fail
      go_ret
      refine ⟨_, rv, rfl, ⟨?_, HF.out⟩, HB.out⟩
      have := HO.out
      rw [show ((List.range k).map fun i => if i < k then rv i else .slice none 0 0) = (List.range k).map rv from List.map_congr_left fun i hi => if_pos (List.mem_range.1 hi)] at this
      exact this

theorem Own.lower {α : Type} {f : α → Value} {w : World} {b b2 : Nat} {e : TypeId} {v : Value} {l : List α} (h : Own f w b e v l) (hb : b2 ≤ b) : Own f w b2 e v l := by
  unfold Own at *
  refine ⟨h.1, ?_⟩
  rcases h.2 with hn | ⟨g, cap, cur, rfl, hb1, r⟩
  · exact .inl hn
  · exact .inr ⟨g, cap, cur, rfl, Nat.le_trans hb hb1, r⟩
namespace OwnMat
variable {w w' : World} {base : Nat} {v : Value} {n : Nat} {rv : Nat → Value} {L : Nat → List UInt8}
theorem at_ (h : OwnMat w base v n rv L) (k : Nat) (hk : k < n) : ∃ g c, v = .slice (some ⟨g, 0, none⟩) n c ∧ w.cell? ⟨g, k, none⟩ = some (rv k) := by
  obtain ⟨g, c, e, _, _, _⟩ := h.top.form (by simp; omega)
  simp only [List.length_map, List.length_range] at e
  subst e
  have := (Own.cell h.top k (by simp; exact hk)).1
  refine ⟨g, c, rfl, ?_⟩
  rw [this]
  simp
theorem put (h : OwnMat w base v n rv L) (k : Nat) (hk : k < n) (gk m ck : Nat) (e : rv k = .slice (some ⟨gk, 0, none⟩) m ck) (j : Nat) (x : UInt8) :
    OwnMat (w.setCell ⟨gk, j, none⟩ (.int .u8 (x.toNat : Int))) base v n rv (fun i => if i = k then (L k).set j x else L i) := by
  have hr := h.rows.row k hk
  rw [e] at hr
  refine h.upd k hk _ ?_ ?_
  · rw [e]; exact OwnB.stored hr j x
  · rw [e]; exact (Fr.refl _ _).setCell (fun _ => by simp [Value.ownBlock]) _
end OwnMat
theorem one_step (n k : Nat) (hk : k < n) (i : Nat) : (if i = k then (rowL n fun j => if k < k ∧ k = j then (1 : UInt8) else 0).set k 1 else rowL n fun j => if i < k ∧ i = j then 1 else 0) = rowL n fun j => if i < k + 1 ∧ i = j then 1 else 0 := by
  by_cases e : i = k
  · subst e
    rw [if_pos rfl, rowL_set]
    refine rowL_congr _ _ _ fun j hj => ?_
    by_cases e2 : j = i
    · subst e2; simp
    · rw [if_neg e2, if_neg (by omega), if_neg (by omega)]
  · rw [if_neg e]
    refine rowL_congr _ _ _ fun j hj => ?_
    by_cases e2 : i < k ∧ i = j
    · rw [if_pos e2, if_pos (by omega)]
    · rw [if_neg e2, if_neg (by omega)]
set_option maxHeartbeats 2000000 in
theorem one_calls (n : Nat) (h1 : 1 ≤ n) (h2 : n ≤ 256) (w : World) :
    Calls Try.prog 26 #[.int .i64 (n : Int)] w fun e w' => ∃ v rv, e = .returned v ∧ OwnMat w' w.heap.size v n rv (fun i => rowL n (oneF i)) ∧ Below w.heap.size w w' := by
  have d1 : ((n : Int) < 1) = False := by simp; omega
  have d2 : decide ((256 : Int) < (n : Int)) = false := decide_eq_false (by omega)
  go_enter Try.func26, Try.ntmps26
  go_wp2_with fail
  refine (empty_calls n n (by omega) (by omega) _).mono ?_
  rintro e w1 ⟨v, rv, rfl, ho1, hb1⟩
  have HO1 := Lib.hid ho1
  have HB1 := Lib.hid hb1
  obtain ⟨g, cv, rfl, -⟩ := ho1.at_ 0 (by omega)
  clear ho1 hb1
  go_wp2_with fail
  go_loopw [4, 15] (fun _ i wr => ∃ k : Nat, k ≤ n ∧ i = .int .i64 k ∧ Hid (OwnMat wr w.heap.size (.slice (some ⟨g, 0, none⟩) n cv) n rv (fun i => rowL n (fun j => if i < k ∧ i = j then 1 else 0))) ∧ Hid (Below w.heap.size w wr)) (fun _ i _ => n - (intOf i).toNat)
  case atStart => exact ⟨0, Nat.zero_le _, rfl, Lib.hid (HO1.out.congr _ fun i _ => rowL_congr _ _ _ fun j _ => by simp), HB1⟩
  case round =>
    obtain ⟨k, hk, rfl, HO, HB⟩ := hrel
    clear HO1 HB1
    by_cases hlt : k < n
    · obtain ⟨g', c', e1, hc1⟩ := HO.out.at_ k hlt
      simp only [Value.slice.injEq, Option.some.injEq, Addr.mk.injEq, true_and, and_true] at e1
      obtain ⟨rfl, rfl⟩ := e1
      obtain ⟨gk, ck, ek, hgk, hgk2, hck⟩ := own_form (HO.out.rows.row k hlt) (by omega)
      obtain ⟨hc2, hz2⟩ := own_at (ek ▸ HO.out.rows.row k hlt) k hlt
      have HO2 := Lib.hid (HO.out.put k hlt gk n ck ek k 1)
      have HO3 := Lib.hid (HO2.out.congr _ (fun i _ => one_step n k hlt i))
      have HB2 : Hid (Below w.heap.size w (wr.setCell ⟨gk, k, none⟩ (.int .u8 ((1 : UInt8).toNat : Int)))) := HB.out.setCell hgk _
      rw [ek] at hc1
      clear HO2 ek
      go_wp2_with fail
      go_roundw
      case rel => exact ⟨k + 1, by omega, by go_num, HO3, HB2⟩
      case measure => simp [intOf]; omega
    · obtain rfl : k = n := by omega
      go_wp2_with fail
      go_ret
      refine ⟨_, rv, rfl, HO.out.congr _ fun i hi => rowL_congr _ _ _ fun j _ => ?_, HB.out⟩
      unfold oneF
      simp [hi]
theorem one_bad (n : Int) (h : n < 1 ∨ 256 < n) (w : World) :
    Calls Try.prog 26 #[.int .i64 n] w fun e w' => e = .returned (.slice none 0 0) ∧ w = w' := by
  by_cases h1 : n < 1
  · clear h
    go_enter Try.func26, Try.ntmps26
    go_wp2_with fail
    go_ret
    exact ⟨rfl, rfl⟩
  · have h2 : 256 < n := by omega
    have h3 : 1 ≤ n := by omega
    clear h h1
    go_enter Try.func26, Try.ntmps26
    go_wp2_with fail
    go_ret
    exact ⟨rfl, rfl⟩
theorem vander_bad (r c : Int) (h : (r < 1 ∨ 256 < r) ∨ (c < 1 ∨ 256 < c)) (w : World) :
    Calls Try.prog 25 #[.int .i64 r, .int .i64 c] w fun e w' => e = .returned (.slice none 0 0) ∧ w = w' := by
  have h' : r < 1 ∨ (1 ≤ r ∧ 256 < r) ∨ (1 ≤ r ∧ r ≤ 256 ∧ c < 1) ∨ (1 ≤ r ∧ r ≤ 256 ∧ 1 ≤ c ∧ 256 < c) := by omega
  clear h
  rcases h' with h1 | ⟨h1, h2⟩ | ⟨h1, h2, h3⟩ | ⟨h1, h2, h3, h4⟩
  all_goals
    go_enter Try.func25, Try.ntmps25
    go_wp2_with fail
    go_ret
    exact ⟨rfl, rfl⟩
theorem ofNat_toNat8 (i : Nat) (h : i < 256) : ((UInt8.ofNat i).toNat : Int) = (i : Int) := by simp; omega
/-- Vander's rows when so many are whole, and of the next one so many numbers. -/
def vanTo (k m : Nat) : Nat → Nat → UInt8 := fun i j => if i < k ∨ (i = k ∧ j < m) then vanG i j else 0
where vanG (i j : Nat) : UInt8 := gpow (UInt8.ofNat i) j
theorem van_step (c k m : Nat) (hm : m < c) (i : Nat) : (if i = k then (rowL c (vanTo k m k)).set m (gpow (UInt8.ofNat k) m) else rowL c (vanTo k m i)) = rowL c (vanTo k (m + 1) i) := by
  unfold vanTo
  by_cases e : i = k
  · subst e
    rw [if_pos rfl, rowL_set]
    refine rowL_congr _ _ _ fun j hj => ?_
    by_cases e2 : j = m
    · subst e2; rw [if_pos rfl, if_pos (by omega)]; rfl
    · rw [if_neg e2]
      by_cases e3 : j < m
      · rw [if_pos (by omega), if_pos (by omega)]
      · rw [if_neg (by omega), if_neg (by omega)]
  · rw [if_neg e]
    refine rowL_congr _ _ _ fun j hj => ?_
    by_cases e2 : i < k
    · rw [if_pos (by omega), if_pos (by omega)]
    · rw [if_neg (by omega), if_neg (by omega)]
set_option maxHeartbeats 4000000 in
theorem vander_calls (r c : Nat) (hr1 : 1 ≤ r) (hr : r ≤ 256) (hc1 : 1 ≤ c) (hc : c ≤ 256) (w : World) :
    Calls Try.prog 25 #[.int .i64 (r : Int), .int .i64 (c : Int)] w fun e w' => ∃ v rv, e = .returned v ∧ OwnMat w' w.heap.size v r rv (fun i => rowL c (fun j => gpow (UInt8.ofNat i) j)) ∧ Below w.heap.size w w' := by
  have d2 : decide ((256 : Int) < (r : Int)) = false := decide_eq_false (by omega)
  have d3 : decide ((256 : Int) < (c : Int)) = false := decide_eq_false (by omega)
  go_enter Try.func25, Try.ntmps25
  go_wp2_with fail
  refine (empty_calls r c (by omega) (by omega) _).mono ?_
  rintro e w1 ⟨v, rv, rfl, ho1, hb1⟩
  have HO1 := Lib.hid ho1
  have HB1 := Lib.hid hb1
  obtain ⟨g, cv, rfl, -⟩ := ho1.at_ 0 (by omega)
  clear ho1 hb1
  go_wp2_with fail
  go_loopw [6, 7, 8, 27] (fun _ _ _ i wr => ∃ k : Nat, k ≤ r ∧ i = .int .i64 k ∧ Hid (OwnMat wr w.heap.size (.slice (some ⟨g, 0, none⟩) r cv) r rv (fun i => rowL c (vanTo k 0 i))) ∧ Hid (Below w.heap.size w wr)) (fun _ _ _ i _ => r - (intOf i).toNat)
  case atStart => exact ⟨0, Nat.zero_le _, rfl, Lib.hid (HO1.out.congr _ fun i _ => rowL_congr _ _ _ fun j _ => by simp [vanTo]), HB1⟩
  case round =>
    obtain ⟨k, hk, rfl, HO, HB⟩ := hrel
    clear HO1 HB1
    by_cases hlt : k < r
    · have hlt' : (k : Int) < (r : Int) := by omega
      go_wp2_with fail
      obtain ⟨wo, hwo⟩ : ∃ wo : World, wo = wr := ⟨_, rfl⟩
      subst hwo
      go_loopw [7, 8, 31] (fun x _ j wr => ∃ m : Nat, m ≤ c ∧ j = .int .i64 m ∧ x = .int .u8 ((gpow (UInt8.ofNat k) m).toNat : Int) ∧ Hid (OwnMat wr w.heap.size (.slice (some ⟨g, 0, none⟩) r cv) r rv (fun i => rowL c (vanTo k m i))) ∧ Hid (Below w.heap.size w wr)) (fun _ _ j _ => c - (intOf j).toNat)
      case atStart => exact ⟨0, Nat.zero_le _, rfl, rfl, HO, HB⟩
      case round =>
        obtain ⟨m, hm, rfl, rfl, HO4, HB4⟩ := hrel
        by_cases hltm : m < c
        · have hltm' : (m : Int) < (c : Int) := by omega
          obtain ⟨g', c', e1, hc1⟩ := HO4.out.at_ k hlt
          simp only [Value.slice.injEq, Option.some.injEq, Addr.mk.injEq, true_and, and_true] at e1
          obtain ⟨rfl, rfl⟩ := e1
          obtain ⟨gk, ck, ek, hgk, hgk2, hck⟩ := own_form (HO4.out.rows.row k hlt) (by omega)
          obtain ⟨hc2, hz2⟩ := own_at (ek ▸ HO4.out.rows.row k hlt) m hltm
          have HO2 := Lib.hid (HO4.out.put k hlt gk c ck ek m (gpow (UInt8.ofNat k) m))
          have HO3 := Lib.hid (HO2.out.congr _ (fun i _ => van_step c k m hltm i))
          have HB2 := Lib.hid (HB4.out.setCell (p := ⟨gk, m, none⟩) hgk (.int .u8 ((gpow (UInt8.ofNat k) m).toNat : Int)))
          have Hg : Hid (gpow (UInt8.ofNat k) (m + 1) = gmul (gpow (UInt8.ofNat k) m) (UInt8.ofNat k)) := rfl
          generalize gpow (UInt8.ofNat k) m = q at *
          have Hm := Lib.hid (fun W => mul8 q (UInt8.ofNat k) W)
          rw [ofNat_toNat8 k (by omega), ← Hg.out] at Hm
          rw [ek] at hc1
          clear HO2 ek
          go_wp2_with fail
          refine (Hm.out _).mono ?_
          rintro e w4 ⟨rfl, rfl⟩
          go_wp2_with fail
          go_roundw
          case rel => exact ⟨m + 1, by omega, by go_num, rfl, HO3, HB2⟩
          case measure => simp [intOf]; omega
        · obtain rfl : m = c := by omega
          go_wp2_with fail
          go_roundw
          case rel => exact ⟨k + 1, by omega, by go_num, Lib.hid (HO4.out.congr _ fun i _ => rowL_congr _ _ _ fun j hj => by unfold vanTo; by_cases e : i < k + 1 <;> simp [e] <;> omega), HB4⟩
          case measure => simp [intOf]; omega
    · obtain rfl : k = r := by omega
      go_wp2_with fail
      go_ret
      refine ⟨_, rv, rfl, HO.out.congr _ fun i hi => rowL_congr _ _ _ fun j _ => ?_, HB.out⟩
      unfold vanTo
      rw [if_pos (.inl hi)]
      rfl
end Go.Proofs.Ytddmifbgbmjdaab
