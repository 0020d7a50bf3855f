/- ConfFirst, walked. -/
import Derived.Test.YtgmiilkdkhlolaaConf3
set_option linter.unusedVariables false
set_option linter.unusedSimpArgs false
namespace Go.Proofs.Ytgmiilkdkhlolaa
open Go.RowKit

theorem upto_get (n j : Nat) (h : j < (upto n).length) : (upto n)[j] = (j : Int) := by simp [upto]
theorem upto_good (n : Nat) (hn : n ≤ 16) : goodL (upto n) := by
  intro j hj _
  have hj' := hj
  rw [upto_length] at hj'
  rw [upto_get]
  refine ⟨by omega, by omega, fun h => ?_⟩
  obtain ⟨i, hi, he⟩ := List.getElem_of_mem h
  simp only [List.getElem_take, upto_get] at he
  simp at hi
  omega
theorem wrap_small (x : Int) (h0 : -9223372036854775808 ≤ x) (h1 : x ≤ 9223372036854775807) : wrap64 x = x := by unfold wrap64; omega

set_option maxHeartbeats 2000000 in
theorem conf_first (k m : Int) (w : World) (hk : -9223372036854775808 ≤ k ∧ k ≤ 9223372036854775807) (hm : -9223372036854775808 ≤ m ∧ m ≤ 9223372036854775807) :
    Calls Try.prog 4 #[.int .i64 k, .int .i64 m] w fun e w' => e = .returned (.bool true) ∧ Below w.heap.size w w' := by
  by_cases h : 1 ≤ k ∧ 0 ≤ m ∧ k + m ≤ 16
  · obtain ⟨h1, h2, h3⟩ := h
    obtain ⟨k, rfl⟩ := Int.eq_ofNat_of_zero_le (show 0 ≤ k from by omega)
    obtain ⟨m, rfl⟩ := Int.eq_ofNat_of_zero_le h2
    have Hs : Hid (soundB 1 (upto (k + m)) k m = true) := soundB_true.2 ⟨by omega, by omega, by omega, by omega, by omega, by rw [upto_length, wrap_small _ (by omega) (by omega)]; omega, upto_good _ (by omega)⟩
    clear hk hm
    go_enter Try.func4, Try.ntmps4
    go_wp2_with fail
    refine (first_calls k m (by omega) (by omega) _).mono ?_
    rintro e w1 ⟨v, rfl, ho, hb1⟩
    obtain ⟨A1, l1, cp1, rfl⟩ := ho.shape
    have H1 := Lib.hid (ho.reads.there)
    have Hb1 := Lib.hid hb1
    have B1 := Lib.hid (Bk.new w1 24 #[.int .i64 1, .slice A1 l1 cp1])
    clear ho hb1
    go_wp2_with fail
    go_loopw [6, 7] (fun x i wr => ∃ (n : Nat) (v : Value), n ≤ k + m ∧ v = x ∧ i = .int .i64 n ∧ Hid (OwnI wr (w1.heap.size + 1) 3 v (upto n)) ∧ Hid (Below (w1.heap.size + 1) (w1.alloc (.cells #[.int .i64 1, .slice A1 l1 cp1] 24)) wr)) (fun _ i _ => k + m - (intOf i).toNat)
    case atStart =>
      refine ⟨0, _, by omega, rfl, rfl, Lib.hid ?_, Lib.hid ?_⟩
      · exact own_lit i64v _ _ _ [] _ _ _ _ (by simp) (by simp) rfl rfl rfl (by simp)
      · exact (Below.refl _ _).alloc (by simp) _
    case round =>
      obtain ⟨n, v, hn, rfl, rfl, ho, hb⟩ := hrel
      have hsz := hb.out.size
      simp at hsz
      by_cases hlt : n < k + m
      · have hlt' : (n : Int) < (k : Int) + (m : Int) := by omega
        go_wp2_with (at_builtin; go_loud (refine wpList_append_one (f := i64v) (fun _ => rfl) (w1.heap.size + 1) _ _ _ 3 (.int .i64 0) 8 rfl Try.underlying22 info_int rfl (by omega) v (upto n) (n : Int) _ rfl _ rfl rfl rfl ho.out ?c1 ?c2 rfl ?_))
        case c1 => omega
        case c2 => rw [upto_length]; omega
        intro v1 w2 ho1 hf1 hat1
        obtain ⟨A2, n2, cp2, rfl⟩ := ho1.shape
        rw [← upto_succ] at ho1
        have Ho1 := Lib.hid ho1
        have Hb2 : Hid (Below (w1.heap.size + 1) (w1.alloc (.cells #[.int .i64 1, .slice A1 l1 cp1] 24)) w2) := by
          have := fr_below (w := w1.alloc (.cells #[.int .i64 1, .slice A1 l1 cp1] 24)) (by simpa using hb.out) hf1 (fun j hj => by have := (ho.out.base_le j hj).1; simpa using this)
          simpa [Hid] using this
        clear ho1 hf1 hat1
        go_wp2_with fail
        go_roundw
        case rel => exact ⟨n + 1, _, by omega, rfl, by go_num, Ho1, Hb2⟩
        case measure => simp [intOf]; omega
      · obtain rfl : n = k + m := by omega
        have hlt' : ¬ ((k : Int) + (m : Int) < (k : Int) + (m : Int)) := by omega
        have H2 := Lib.hid ho.out.reads
        have B2 := Lib.hid (B1.out.below hb.out (by simp))
        have H3 : Hid (Ints _ wr (.slice A1 l1 cp1) (upto (k + m))) := (H1.out.below ((Below.refl _ _).alloc (Nat.le_refl _) (.cells #[.int .i64 1, .slice A1 l1 cp1] 24))).below (by simpa using hb.out)
        have Hb3 : Hid (Below w.heap.size w wr) := (Hb1.out.alloc Hb1.out.size _).trans (hb.out.mono (by have := Hb1.out.size; omega))
        obtain ⟨A2, n2, cp2, rfl⟩ := ho.out.shape
        clear B1 H1 Hb1 hb ho
        go_wp2_with fail
        refine (awake11_calls _).mono ?_
        rintro e w4 ⟨rfl, hb4⟩
        have H4 := Lib.hid (H2.out.below hb4)
        have H5 := Lib.hid (H3.out.below hb4)
        have B4 := Lib.hid (B2.out.below hb4 B2.out.lt)
        have Hb4 : Hid (Below w.heap.size w w4) := Hb3.out.trans (hb4.mono Hb3.out.size)
        clear H2 H3 B2 Hb3 hb4
        have c0 := B4.out.cell 0
        have c1 := B4.out.cell 1
        simp at c0 c1
        go_wp2_with fail
        refine (ints_calls _ _ (upto (k + m)) (upto (k + m)) _ _ _ H5.out H4.out).mono ?_
        rintro e w5 ⟨rfl, n5, rfl⟩
        rw [decide_eq_true rfl]
        have hb5 : Below w4.heap.size w4 (w4.drewN n5) := below_drewN (Below.refl _ _) _
        have Hb5 : Hid (Below w.heap.size w (w4.drewN n5)) := below_drewN Hb4.out _
        have H6 := Lib.hid (H5.out.below hb5)
        have c0 : (w4.drewN n5).cell? ⟨w1.heap.size, 0, none⟩ = _ := c0
        have c1 : (w4.drewN n5).cell? ⟨w1.heap.size, 1, none⟩ = _ := c1
        go_wp2_with fail
        refine (sound_calls 1 _ (upto (k + m)) k m _ _ H6.out).mono ?_
        rintro e w6 ⟨rfl, hb6⟩
        rw [Hs.out]
        go_wp2_with fail
        go_ret
        exact ⟨rfl, Hb5.out.trans (hb6.mono Hb5.out.size)⟩
  · have hn : k < 1 ∨ m < 0 ∨ 16 < m ∨ 16 < k + m := by omega
    have hcase : k < 1 ∨ (1 ≤ k ∧ m < 0) ∨ (1 ≤ k ∧ 0 ≤ m ∧ 16 < k) ∨ (1 ≤ k ∧ 0 ≤ m ∧ k ≤ 16 ∧ 16 < m) ∨ (1 ≤ k ∧ 0 ≤ m ∧ k ≤ 16 ∧ m ≤ 16 ∧ 16 < k + m) := by omega
    have Hn := Lib.hid (first_none_calls k m hn)
    clear h hn hk hm
    rcases hcase with a1 | ⟨a1, a2⟩ | ⟨a1, a2, a3⟩ | ⟨a1, a2, a3, a4⟩ | ⟨a1, a2, a3, a4, a5⟩
    all_goals
      go_enter Try.func4, Try.ntmps4
      go_wp2_with fail
      refine (Hn.out _).mono ?_
      rintro e w1 ⟨rfl, hb1⟩
      have Hb1 := Lib.hid hb1
      have B1 := Lib.hid (Bk.new w1 24 #[.int .i64 0, .slice none 0 0])
      clear hb1
      go_wp2_with fail
      refine (awake11_calls _).mono ?_
      rintro e w4 ⟨rfl, hb4⟩
      have B4 := Lib.hid (B1.out.below hb4 (by simp))
      have Hb4 : Hid (Below w.heap.size w w4) := (Hb1.out.alloc Hb1.out.size _).trans (hb4.mono (by have := Hb1.out.size; simp; omega))
      clear B1 Hb1 hb4
      have c0 := B4.out.cell 0
      have c1 := B4.out.cell 1
      simp at c0 c1
      go_wp2_with fail
      go_ret
      exact ⟨rfl, Hb4.out⟩
end Go.Proofs.Ytgmiilkdkhlolaa
