/- The reference's Same, Sound. -/
import Derived.Test.YtddmifbgbmjdaabMat4
import Derived.Laws.BytesArg
set_option linter.unusedVariables false
set_option linter.unusedSimpArgs false
namespace Go.Proofs.Ytddmifbgbmjdaab
open Go.RowKit

/-- The text of bytes. -/
def textOf (l : List UInt8) : ByteArray := ⟨l.toArray⟩
theorem textOf_inj {a b : List UInt8} (h : textOf a = textOf b) : a = b := by
  have := congrArg (fun x : ByteArray => x.data.toList) h
  simpa [textOf] using this
theorem conv_str {P : Nat → Prop} {w : World} {v : Value} {l : List UInt8} (h : Bytes P w v l) : (convert 27 9 v).run Try.prog w = .ok (.string (textOf l)) w := by
  obtain ⟨A, c, rfl, hl, hr⟩ := h
  cases A with
  | none =>
    have h0 : l = [] := by
      cases l with
      | nil => rfl
      | cons a l => obtain ⟨ad, e, _⟩ := hr 0 (u8v a) (by simp); cases e
    subst h0
    exact run_convert_bytes_nil w _ _ Try.underlying27 Try.underlying5 _ _ _ Try.underlying9
  | some ad =>
    rw [run_convert_bytes_string w _ _ _ (some ad) l.length c Try.underlying27 Try.underlying5 Try.underlying9]
    have hload : (loadCells ad l.length).run Try.prog w = .ok ((l.map fun b => (b.toNat : Int)).map (Value.int .u8)).toArray w := by
      have := run_loadCells_list (P := Try.prog) w ad ((l.map fun b => (b.toNat : Int)).map (Value.int .u8)) (fun j v hj => by
        obtain ⟨ad', e, _, hc⟩ := hr j v (by rw [← hj]; simp only [List.map_map, List.getElem?_map]; rfl)
        cases e
        exact hc)
      simpa using this
    rw [run_bytesToString w ad l.length c _ hload, foldl_push_bytes]
    congr 2
    unfold textOf
    congr 1
    simp [List.map_map, Function.comp_def]
theorem textOf_list (l : List UInt8) : (textOf l).toList = l := by unfold textOf; exact ByteArray.toList_mk l
theorem text_eq (a b : List UInt8) : ((textOf a).toList == (textOf b).toList) = decide (a = b) := by
  rw [textOf_list, textOf_list]
  by_cases h : a = b <;> simp [h]
set_option maxHeartbeats 2000000 in
theorem same_calls (va vb : Value) (A B : List (List UInt8)) (P Q : Nat → Prop) (w : World) (ha : MatR P w va A) (hb : MatR Q w vb B) :
    Calls Try.prog 20 #[va, vb] w fun e w' => e = .returned (.bool (decide (A = B))) ∧ ∃ n, w' = w.drewN n := by
  have HA := Lib.hid ha
  have HB := Lib.hid hb
  obtain ⟨AA, cpa, rfl, ha1, ha2⟩ := ha.shape
  obtain ⟨AB, cpb, rfl, hb1, hb2⟩ := hb.shape
  clear ha hb
  by_cases hlen : A.length = B.length
  · have hlb : ((A.length : Int) != (B.length : Int)) = false := by simp [hlen]
    have Hlen := Lib.hid hlen
    have hle : A.length ≤ B.length := by omega
    clear hlen
    go_enter Try.func20, Try.ntmps20
    go_wp2_with fail
    go_loopw [5] (fun i wr => ∃ k n : Nat, k ≤ A.length ∧ i = .int .i64 k ∧ wr = w.drewN n ∧ Hid (∀ j (h : j < A.length) (h2 : j < B.length), j < k → A[j] = B[j])) (fun i _ => A.length - (intOf i).toNat)
    case atStart => exact ⟨0, 0, Nat.zero_le _, rfl, rfl, fun j _ _ hj => absurd hj (by omega)⟩
    case round =>
      obtain ⟨k, n, hk, rfl, rfl, hs⟩ := hrel
      by_cases hlt : k < A.length
      · have hltb : k < B.length := by omega
        obtain ⟨ad, rv, rfl, hp, hcell, hbt⟩ := HA.out.at_ k hlt
        obtain ⟨ad1, rv1, rfl, hp1, hcell1, hbt1⟩ := HB.out.at_ k hltb
        have k1 := fun n => conv_str (w := w.drewN n) (P := P) (v := rv) (l := A[k]) hbt
        have k2 := fun n => conv_str (w := w.drewN n) (P := Q) (v := rv1) (l := B[k]) hbt1
        have k3 := text_eq A[k] B[k]
        have Hsame : Hid (decide (A[k] = B[k]) = true → ∀ j (h : j < A.length) (h2 : j < B.length), j < k + 1 → A[j] = B[j]) := fun e j h h2 hj => by
          by_cases ej : j = k
          · subst ej; exact of_decide_eq_true e
          · exact hs.out j h h2 (by omega)
        have Hdiff : Hid (decide (A[k] = B[k]) = false → decide (A = B) = false) := fun e => decide_eq_false (fun h => of_decide_eq_false e (by simp [h]))
        obtain ⟨A2, c2, rfl, -, -⟩ := hbt
        obtain ⟨A3, c3, rfl, -, -⟩ := hbt1
        generalize A[k] = x at *
        generalize B[k] = y at *
        cases he : decide (x = y)
        · rw [he] at k3
          have Hd := Lib.hid (Hdiff.out he)
          clear he
          go_wp2_with fail
          go_quiet (fail)
          go_wp2_with fail
          go_ret
          exact ⟨by rw [Hd.out]; rfl, _, World.drewN_drewN ..⟩
        · rw [he] at k3
          have Hd := Lib.hid (Hsame.out he)
          clear he
          go_wp2_with fail
          go_quiet (fail)
          go_wp2_with fail
          go_roundw
          case rel => exact ⟨k + 1, _, by omega, by go_num, rfl, Hd⟩
          case measure => simp [intOf]; omega
      · have Hr : Hid (decide (A = B) = true) := decide_eq_true (List.ext_getElem Hlen.out (fun j h1 h2 => hs.out j h1 h2 (by omega)))
        go_wp2_with fail
        go_ret
        exact ⟨by rw [Hr.out]; rfl, n, rfl⟩
  · have hlb : ((A.length : Int) != (B.length : Int)) = true := by rw [bne_iff_ne]; omega
    have Hr : Hid (decide (A = B) = false) := decide_eq_false (fun h => hlen (by rw [h]))
    clear hlen
    go_enter Try.func20, Try.ntmps20
    go_wp2_with fail
    go_ret
    exact ⟨by rw [Hr.out]; rfl, 0, rfl⟩
/-- The rows so far have the width of the first. -/
def evenTo (M : List (List UInt8)) (k : Nat) : Prop := ∀ j (h : j < M.length), j < k → M[j].length = (M.headD []).length
theorem even_snd {M : List (List UInt8)} (h1 : 0 < M.length) (h2 : 0 < (M.headD []).length) (h : evenTo M M.length) : Snd M := ⟨h1, h2, fun x hx => by
  obtain ⟨j, hj, rfl⟩ := List.getElem_of_mem hx
  exact h j hj hj⟩
set_option maxHeartbeats 2000000 in
theorem rsound_calls (v : Value) (M : List (List UInt8)) (P : Nat → Prop) (w : World) (hv : MatR P w v M) :
    Calls Try.prog 17 #[v] w fun e w' => e = .returned (.bool (decide (Snd M))) ∧ ∃ n, w' = w.drewN n := by
  have HA := Lib.hid hv
  obtain ⟨A, c, rfl, hl, hm⟩ := hv.shape
  clear hv
  by_cases h0 : M.length = 0
  · have Hr : Hid (decide (Snd M) = false) := decide_eq_false (fun h => by have := h.1; omega)
    have e0 : ((M.length : Int) == 0) = true := by rw [h0]; rfl
    clear h0
    go_enter Try.func17, Try.ntmps17
    go_wp2_with fail
    go_ret
    exact ⟨by rw [Hr.out]; rfl, 0, rfl⟩
  · have e0 : ((M.length : Int) == 0) = false := by rw [beq_eq_false_iff_ne]; omega
    have hpos : 0 < (M.length : Int) := by omega
    obtain ⟨am, A0, c0, rfl, hp, hcell⟩ := HA.out.first (by omega)
    have HrN : Hid ((M.headD []).length = 0 → decide (Snd M) = false) := fun e => decide_eq_false (fun h => by have := h.2.1; omega)
    have HrY : Hid (0 < (M.headD []).length → evenTo M M.length → decide (Snd M) = true) := fun e h => decide_eq_true (even_snd (by omega) e h)
    have HrD : Hid (∀ k (h : k < M.length), M[k].length ≠ (M.headD []).length → decide (Snd M) = false) := fun k hk hne => decide_eq_false (fun h => hne (h.2.2 _ (List.getElem_mem hk)))
    obtain ⟨n0, hn0⟩ : ∃ n0, (M.headD []).length = n0 := ⟨_, rfl⟩
    have Hn0 := Lib.hid hn0
    rw [hn0] at hcell HrN HrY HrD
    clear hn0
    by_cases h1 : n0 = 0
    · have Hr : Hid (decide (Snd M) = false) := HrN.out h1
      have e1 : ((n0 : Int) == 0) = true := by rw [h1]; rfl
      clear h0 h1
      go_enter Try.func17, Try.ntmps17
      go_wp2_with fail
      go_ret
      exact ⟨by rw [Hr.out]; rfl, 0, rfl⟩
    · have e1 : ((n0 : Int) == 0) = false := by rw [beq_eq_false_iff_ne]; omega
      have HY := Lib.hid (HrY.out (by omega))
      clear h0 h1 HrY
      go_enter Try.func17, Try.ntmps17
      go_wp2_with fail
      go_loopw [3] (fun i wr => ∃ k n : Nat, k ≤ M.length ∧ i = .int .i64 k ∧ wr = w.drewN n ∧ Hid (evenTo M k)) (fun i _ => M.length - (intOf i).toNat)
      case atStart => exact ⟨0, 0, Nat.zero_le _, rfl, rfl, fun j _ hj => absurd hj (by omega)⟩
      case round =>
        obtain ⟨k, n, hk, rfl, rfl, hs⟩ := hrel
        by_cases hlt : k < M.length
        · obtain ⟨ad, rv, e, hp, hcellk, hbt⟩ := HA.out.at_ k hlt
          cases e
          obtain ⟨A2, c2, rfl, -, -⟩ := hbt
          by_cases he : M[k].length = n0
          · have hx : ((M[k].length : Int) != (n0 : Int)) = false := by rw [he]; simp
            have HE : Hid (evenTo M (k + 1)) := fun j h hj => by
              by_cases ej : j = k
              · subst ej; rw [Hn0.out]; exact he
              · exact hs.out j h (by omega)
            clear he
            go_wp2_with fail
            go_quiet (fail)
            go_wp2_with fail
            go_roundw
            case rel => exact ⟨k + 1, _, by omega, by go_num, rfl, HE⟩
            case measure => simp [intOf]; omega
          · have hx : ((M[k].length : Int) != (n0 : Int)) = true := by rw [bne_iff_ne]; omega
            have Hr : Hid (decide (Snd M) = false) := HrD.out k hlt he
            clear he
            go_wp2_with fail
            go_quiet (fail)
            go_wp2_with fail
            go_ret
            exact ⟨by rw [Hr.out]; rfl, _, World.drewN_drewN ..⟩
        · obtain rfl : k = M.length := by omega
          have Hr : Hid (decide (Snd M) = true) := HY.out hs.out
          go_wp2_with fail
          go_ret
          exact ⟨by rw [Hr.out]; rfl, n, rfl⟩
end Go.Proofs.Ytddmifbgbmjdaab
