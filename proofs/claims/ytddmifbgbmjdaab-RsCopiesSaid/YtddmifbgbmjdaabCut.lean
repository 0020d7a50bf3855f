/- The law's cut. -/
import Derived.Test.YtddmifbgbmjdaabRef2
set_option linter.unusedVariables false
set_option linter.unusedSimpArgs false
namespace Go.Proofs.Ytddmifbgbmjdaab
open Go.RowKit

/-- Not too large. -/
def cutL (M : List (List UInt8)) : List (List UInt8) := (M.take 12).map (·.take 12)
theorem cutL_length (M : List (List UInt8)) : (cutL M).length ≤ 12 := by unfold cutL; simp; omega
theorem cutL_row (M : List (List UInt8)) (x : List UInt8) (h : x ∈ cutL M) : x.length ≤ 12 := by
  obtain ⟨y, _, rfl⟩ := List.mem_map.1 h
  simp; omega
theorem cutL_cut {M : List (List UInt8)} (h1 : M.length ≤ 12) (h2 : ∀ x ∈ M, x.length ≤ 12) : cutL M = M := by
  unfold cutL
  rw [List.take_of_length_le h1]
  exact (List.map_congr_left fun x hx => List.take_of_length_le (h2 x hx)).trans (List.map_id' M)
theorem cutL_idem (M : List (List UInt8)) : cutL (cutL M) = cutL M := cutL_cut (cutL_length M) (fun x hx => cutL_row M x hx)
theorem own_fresh_cut {P : Nat → Prop} {w : World} {l : List UInt8} {A : Option Addr} {n c : Nat} (h : Bytes P w (.slice A n c) l) (hl : 12 ≤ l.length) : Bytes P w (.slice A 12 c) (l.take 12) := Sl.cut h 12 hl

theorem cutL_get (M : List (List UInt8)) (k : Nat) (h : k < (cutL M).length) (h2 : k < M.length) : (cutL M)[k] = M[k].take 12 := by simp [cutL]
theorem cutL_push (M : List (List UInt8)) (k : Nat) (h : k < M.length) : (M.take (k + 1)).map (·.take 12) = (M.take k).map (·.take 12) ++ [M[k].take 12] := by
  rw [take_snoc M k h, List.map_append]; rfl
set_option maxHeartbeats 8000000 in
theorem cut_calls (v : Value) (M : List (List UInt8)) (P : Nat → Prop) (w : World) (hv : MatR P w v M) :
    Calls Try.prog 15 #[v] w fun e w' => ∃ x rv, e = .returned x ∧ OwnMat w' w.heap.size x (cutL M).length rv (fun i => (cutL M).getD i []) ∧ Below w.heap.size w w' := by
  have HA0 : Hid (MatR (· < w.heap.size) w v M) := hv.there.mono fun k hk => hk.2
  obtain ⟨A, c, rfl, hl, hm⟩ := hv.shape
  clear hv
  have H0 : Hid (OwnMat (w.alloc (.cells #[] 27)) w.heap.size (.slice (some ⟨w.heap.size, 0, none⟩) 0 0) 0 (fun _ => .slice none 0 0) (fun i => (cutL M).getD i [])) := (OwnMat.empty0 w w.heap.size (Nat.le_refl _)).congr _ (fun i hi => absurd hi (by omega))
  have HB0 : Hid (Below w.heap.size w (w.alloc (.cells #[] 27))) := (Below.refl _ _).alloc (Nat.le_refl _) _
  obtain ⟨N, hN⟩ : ∃ N, (cutL M).length = N := ⟨_, rfl⟩
  have hN2 : N = min 12 M.length := by rw [← hN]; unfold cutL; simp
  have HN := Lib.hid hN
  rw [hN]
  have HG : Hid (∀ k (h : k < M.length), k < N → (cutL M).getD k [] = M[k].take 12) := fun k h hk => by
    rw [List.getD_eq_getElem?_getD, List.getElem?_eq_getElem (by omega), cutL_get M k (by omega) h]; rfl
  clear hN
  by_cases hbig : 12 < M.length
  · obtain rfl : N = 12 := by omega
    clear hN2
    have hbig' : (12 : Int) < (M.length : Int) := by omega
    have hc12 : (12 : Int) ≤ (c : Int) := by omega
    go_enter Try.func15, Try.ntmps15
    go_wp2_with fail
    go_loopw [3, 4, 5] (fun x i _ wr => ∃ (k : Nat) (rv : Nat → Value), k ≤ 12 ∧ i = .int .i64 k ∧ Hid (OwnMat wr w.heap.size x k rv (fun i => (cutL M).getD i [])) ∧ Hid (Below w.heap.size w wr)) (fun _ i _ _ => 12 - (intOf i).toNat)
    case atStart => exact ⟨0, _, Nat.zero_le _, rfl, H0, HB0⟩
    case round =>
      obtain ⟨k, rv, hk, rfl, HO, HB⟩ := hrel
      obtain ⟨Av, cv, rfl⟩ := HO.out.shape
      clear H0 HB0
      by_cases hlt : k < 12
      · have hlt' : (k : Int) < (12 : Int) := by omega
        have hsz := HB.out.size
        obtain ⟨ad, rv0, e, hp, hcell, hb⟩ := (HA0.out.fr (Fr.of_below HB.out (fun _ => True)) (fun _ _ => trivial)).at_ k (by omega)
        subst e
        have HGk := Lib.hid (HG.out k (by omega) hlt)
        obtain ⟨l, hl0⟩ : ∃ l, M[k]'(by omega) = l := ⟨_, rfl⟩
        rw [hl0] at hb HGk
        clear hl0
        have Hb := Lib.hid hb
        obtain ⟨Ar, cr, rfl, hr1, -⟩ := hb
        by_cases hrow : 12 < l.length
        · have hrow' : (12 : Int) < (l.length : Int) := by omega
          have hcr12 : (12 : Int) ≤ (cr : Int) := by omega
          have Hb2 : Hid (Bytes (· < w.heap.size) wr (.slice Ar 12 cr) (l.take 12)) := own_fresh_cut Hb.out (by omega)
          clear hr1
          go_wp2_with (first
            | (at_builtin; refine wpList_append_sl (f := u8v) (R := (· < w.heap.size)) (fun _ => rfl) wr.heap.size _ _ 27 5 (.int .u8 0) 1 rfl Try.underlying27 info_u8m rfl (by omega) (.slice (some ⟨wr.heap.size, 0, none⟩) 0 0) (.slice Ar (12) cr) [] (l.take 12) rfl rfl (OwnB.empty wr _ _ (Nat.le_refl _)) (Hb2.out.fr (Fr.of_below ((Below.refl _ _).alloc (Nat.le_refl _) _) (fun _ => True)) (fun _ _ => trivial)) (by simp) (by simp; omega) rfl ?_; intro vb wb hob hfb hab; obtain ⟨Ab, nb, cb, rfl⟩ := hob.shape; have HWb : Below wr.heap.size wr wb := fr_below2 ((Below.refl _ _).alloc (Nat.le_refl _) _) hfb (Nat.le_refl _) (fun j e => by simp [Value.ownBlock] at e; omega))
            | (at_builtin; refine wpList_append_row w.heap.size _ _ rfl (.slice Av k cv) (.slice Ab nb cb) k rv (fun i => (cutL M).getD i []) (l.take 12) ?c1xa ?c2xa ?c3xa ⟨_, _, _, rfl⟩ _ rfl rfl rfl ?c4xa (by omega) rfl ?_))
          case c1xa => exact HO.out.keep_below HWb
          case c2xa => exact Own.lower hob hsz
          case c3xa => exact fun j hj b hb e => by have := (HO.out.rows.lt j hj b hb).2; have := (hob.base_le b e).1; omega
          case c4xa => have := HWb.size; omega
          intro v1 w2 ho2 hf2
          have HO2 := Lib.hid (ho2.congr (fun i => (cutL M).getD i []) (fun j _ => by
            by_cases e : j = k
            · subst e; exact (if_pos rfl).trans HGk.out.symm
            · exact if_neg e))
          have HB2 : Hid (Below w.heap.size w w2) := Fr.after (HB.out.trans (HWb.mono hsz)) hf2 (fun j hj e => by have := HO.out.top_ge j e; omega)
          clear ho2 hf2 hob hfb hab HWb
          go_wp2_with fail
          go_roundw
          case rel => exact ⟨k + 1, _, by omega, by go_num, HO2, HB2⟩
          case measure => simp [intOf]; omega
        · have hrow' : (l.length : Int) ≤ 12 := by omega
          have Hb2 : Hid (Bytes (· < w.heap.size) wr (.slice Ar l.length cr) (l.take 12)) := by rw [List.take_of_length_le (by omega)]; exact Hb.out
          clear hr1
          go_wp2_with (first
            | (at_builtin; refine wpList_append_sl (f := u8v) (R := (· < w.heap.size)) (fun _ => rfl) wr.heap.size _ _ 27 5 (.int .u8 0) 1 rfl Try.underlying27 info_u8m rfl (by omega) (.slice (some ⟨wr.heap.size, 0, none⟩) 0 0) (.slice Ar (l.length) cr) [] (l.take 12) rfl rfl (OwnB.empty wr _ _ (Nat.le_refl _)) (Hb2.out.fr (Fr.of_below ((Below.refl _ _).alloc (Nat.le_refl _) _) (fun _ => True)) (fun _ _ => trivial)) (by simp) (by simp; omega) rfl ?_; intro vb wb hob hfb hab; obtain ⟨Ab, nb, cb, rfl⟩ := hob.shape; have HWb : Below wr.heap.size wr wb := fr_below2 ((Below.refl _ _).alloc (Nat.le_refl _) _) hfb (Nat.le_refl _) (fun j e => by simp [Value.ownBlock] at e; omega))
            | (at_builtin; refine wpList_append_row w.heap.size _ _ rfl (.slice Av k cv) (.slice Ab nb cb) k rv (fun i => (cutL M).getD i []) (l.take 12) ?c1xb ?c2xb ?c3xb ⟨_, _, _, rfl⟩ _ rfl rfl rfl ?c4xb (by omega) rfl ?_))
          case c1xb => exact HO.out.keep_below HWb
          case c2xb => exact Own.lower hob hsz
          case c3xb => exact fun j hj b hb e => by have := (HO.out.rows.lt j hj b hb).2; have := (hob.base_le b e).1; omega
          case c4xb => have := HWb.size; omega
          intro v1 w2 ho2 hf2
          have HO2 := Lib.hid (ho2.congr (fun i => (cutL M).getD i []) (fun j _ => by
            by_cases e : j = k
            · subst e; exact (if_pos rfl).trans HGk.out.symm
            · exact if_neg e))
          have HB2 : Hid (Below w.heap.size w w2) := Fr.after (HB.out.trans (HWb.mono hsz)) hf2 (fun j hj e => by have := HO.out.top_ge j e; omega)
          clear ho2 hf2 hob hfb hab HWb
          go_wp2_with fail
          go_roundw
          case rel => exact ⟨k + 1, _, by omega, by go_num, HO2, HB2⟩
          case measure => simp [intOf]; omega
      · obtain rfl : k = 12 := by omega
        go_wp2_with fail
        go_ret
        exact ⟨_, rv, rfl, HO.out, HB.out⟩
  · obtain rfl : N = M.length := by omega
    clear hN2
    have hbig' : (M.length : Int) ≤ 12 := by omega
    go_enter Try.func15, Try.ntmps15
    go_wp2_with fail
    go_loopw [3, 4, 5] (fun x i _ wr => ∃ (k : Nat) (rv : Nat → Value), k ≤ M.length ∧ i = .int .i64 k ∧ Hid (OwnMat wr w.heap.size x k rv (fun i => (cutL M).getD i [])) ∧ Hid (Below w.heap.size w wr)) (fun _ i _ _ => M.length - (intOf i).toNat)
    case atStart => exact ⟨0, _, Nat.zero_le _, rfl, H0, HB0⟩
    case round =>
      obtain ⟨k, rv, hk, rfl, HO, HB⟩ := hrel
      obtain ⟨Av, cv, rfl⟩ := HO.out.shape
      clear H0 HB0
      by_cases hlt : k < M.length
      · have hlt' : (k : Int) < (M.length : Int) := by omega
        have hsz := HB.out.size
        obtain ⟨ad, rv0, e, hp, hcell, hb⟩ := (HA0.out.fr (Fr.of_below HB.out (fun _ => True)) (fun _ _ => trivial)).at_ k (by omega)
        subst e
        have HGk := Lib.hid (HG.out k (by omega) hlt)
        obtain ⟨l, hl0⟩ : ∃ l, M[k]'(by omega) = l := ⟨_, rfl⟩
        rw [hl0] at hb HGk
        clear hl0
        have Hb := Lib.hid hb
        obtain ⟨Ar, cr, rfl, hr1, -⟩ := hb
        by_cases hrow : 12 < l.length
        · have hrow' : (12 : Int) < (l.length : Int) := by omega
          have hcr12 : (12 : Int) ≤ (cr : Int) := by omega
          have Hb2 : Hid (Bytes (· < w.heap.size) wr (.slice Ar 12 cr) (l.take 12)) := own_fresh_cut Hb.out (by omega)
          clear hr1
          go_wp2_with (first
            | (at_builtin; refine wpList_append_sl (f := u8v) (R := (· < w.heap.size)) (fun _ => rfl) wr.heap.size _ _ 27 5 (.int .u8 0) 1 rfl Try.underlying27 info_u8m rfl (by omega) (.slice (some ⟨wr.heap.size, 0, none⟩) 0 0) (.slice Ar (12) cr) [] (l.take 12) rfl rfl (OwnB.empty wr _ _ (Nat.le_refl _)) (Hb2.out.fr (Fr.of_below ((Below.refl _ _).alloc (Nat.le_refl _) _) (fun _ => True)) (fun _ _ => trivial)) (by simp) (by simp; omega) rfl ?_; intro vb wb hob hfb hab; obtain ⟨Ab, nb, cb, rfl⟩ := hob.shape; have HWb : Below wr.heap.size wr wb := fr_below2 ((Below.refl _ _).alloc (Nat.le_refl _) _) hfb (Nat.le_refl _) (fun j e => by simp [Value.ownBlock] at e; omega))
            | (at_builtin; refine wpList_append_row w.heap.size _ _ rfl (.slice Av k cv) (.slice Ab nb cb) k rv (fun i => (cutL M).getD i []) (l.take 12) ?c1ya ?c2ya ?c3ya ⟨_, _, _, rfl⟩ _ rfl rfl rfl ?c4ya (by omega) rfl ?_))
          case c1ya => exact HO.out.keep_below HWb
          case c2ya => exact Own.lower hob hsz
          case c3ya => exact fun j hj b hb e => by have := (HO.out.rows.lt j hj b hb).2; have := (hob.base_le b e).1; omega
          case c4ya => have := HWb.size; omega
          intro v1 w2 ho2 hf2
          have HO2 := Lib.hid (ho2.congr (fun i => (cutL M).getD i []) (fun j _ => by
            by_cases e : j = k
            · subst e; exact (if_pos rfl).trans HGk.out.symm
            · exact if_neg e))
          have HB2 : Hid (Below w.heap.size w w2) := Fr.after (HB.out.trans (HWb.mono hsz)) hf2 (fun j hj e => by have := HO.out.top_ge j e; omega)
          clear ho2 hf2 hob hfb hab HWb
          go_wp2_with fail
          go_roundw
          case rel => exact ⟨k + 1, _, by omega, by go_num, HO2, HB2⟩
          case measure => simp [intOf]; omega
        · have hrow' : (l.length : Int) ≤ 12 := by omega
          have Hb2 : Hid (Bytes (· < w.heap.size) wr (.slice Ar l.length cr) (l.take 12)) := by rw [List.take_of_length_le (by omega)]; exact Hb.out
          clear hr1
          go_wp2_with (first
            | (at_builtin; refine wpList_append_sl (f := u8v) (R := (· < w.heap.size)) (fun _ => rfl) wr.heap.size _ _ 27 5 (.int .u8 0) 1 rfl Try.underlying27 info_u8m rfl (by omega) (.slice (some ⟨wr.heap.size, 0, none⟩) 0 0) (.slice Ar (l.length) cr) [] (l.take 12) rfl rfl (OwnB.empty wr _ _ (Nat.le_refl _)) (Hb2.out.fr (Fr.of_below ((Below.refl _ _).alloc (Nat.le_refl _) _) (fun _ => True)) (fun _ _ => trivial)) (by simp) (by simp; omega) rfl ?_; intro vb wb hob hfb hab; obtain ⟨Ab, nb, cb, rfl⟩ := hob.shape; have HWb : Below wr.heap.size wr wb := fr_below2 ((Below.refl _ _).alloc (Nat.le_refl _) _) hfb (Nat.le_refl _) (fun j e => by simp [Value.ownBlock] at e; omega))
            | (at_builtin; refine wpList_append_row w.heap.size _ _ rfl (.slice Av k cv) (.slice Ab nb cb) k rv (fun i => (cutL M).getD i []) (l.take 12) ?c1yb ?c2yb ?c3yb ⟨_, _, _, rfl⟩ _ rfl rfl rfl ?c4yb (by omega) rfl ?_))
          case c1yb => exact HO.out.keep_below HWb
          case c2yb => exact Own.lower hob hsz
          case c3yb => exact fun j hj b hb e => by have := (HO.out.rows.lt j hj b hb).2; have := (hob.base_le b e).1; omega
          case c4yb => have := HWb.size; omega
          intro v1 w2 ho2 hf2
          have HO2 := Lib.hid (ho2.congr (fun i => (cutL M).getD i []) (fun j _ => by
            by_cases e : j = k
            · subst e; exact (if_pos rfl).trans HGk.out.symm
            · exact if_neg e))
          have HB2 : Hid (Below w.heap.size w w2) := Fr.after (HB.out.trans (HWb.mono hsz)) hf2 (fun j hj e => by have := HO.out.top_ge j e; omega)
          clear ho2 hf2 hob hfb hab HWb
          go_wp2_with fail
          go_roundw
          case rel => exact ⟨k + 1, _, by omega, by go_num, HO2, HB2⟩
          case measure => simp [intOf]; omega
      · obtain rfl : k = M.length := by omega
        go_wp2_with fail
        go_ret
        exact ⟨_, rv, rfl, HO.out, HB.out⟩
end Go.Proofs.Ytddmifbgbmjdaab
