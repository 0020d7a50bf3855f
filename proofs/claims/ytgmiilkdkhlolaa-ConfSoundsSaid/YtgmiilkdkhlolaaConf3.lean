/- conf.First of sizes that may not be; the fixed fact of layer 11. -/
import Derived.Test.YtgmiilkdkhlolaaConf2
set_option linter.unusedVariables false
set_option linter.unusedSimpArgs false
namespace Go.Proofs.Ytgmiilkdkhlolaa
open Go.RowKit

set_option maxHeartbeats 1000000 in
theorem first_none_calls (k m : Int) (h : k < 1 ∨ m < 0 ∨ 16 < m ∨ 16 < k + m) (w : World) :
    Calls Try.prog 13 #[.int .i64 k, .int .i64 m] w fun e w' => e = .returned (.agg #[.int .i64 0, .slice none 0 0]) ∧ Below w.heap.size w w' := by
  have hcase : k < 1 ∨ (1 ≤ k ∧ m < 0) ∨ (1 ≤ k ∧ 0 ≤ m ∧ 16 < m) ∨ (1 ≤ k ∧ 0 ≤ m ∧ m ≤ 16 ∧ 16 - m < k) := by omega
  clear h
  rcases hcase with a1 | ⟨a1, a2⟩ | ⟨a1, a2, a3⟩ | ⟨a1, a2, a3, a4⟩
  all_goals
    go_enter Try.func13, Try.ntmps13
    go_wp2_with fail
    refine bodyPost_ret (v := .agg #[.int .i64 0, .slice none 0 0]) (by simp [results, Try.results13, go_sem]) rfl ⟨rfl, ?_⟩
    repeat (first | exact (Below.refl _ _).alloc (Nat.le_refl _) _ | exact (((Below.refl _ _).alloc (Nat.le_refl _) _).setCell (Nat.le_refl _) _).setCell (Nat.le_refl _) _)

theorem good3 : goodL (upto 3) := by
  show goodTo [0, 1, 2] 3
  unfold goodTo
  simp only [List.length_cons, List.length_nil]
  decide
theorem sound_yes : soundB 1 (upto 3) 2 1 = true := soundB_true.2 ⟨by decide, by decide, by decide, by decide, by decide, by decide +kernel, good3⟩
theorem sound_no : soundB 1 (upto 3) 2 2 = false := soundB_false (fun h => absurd h.2.2.2.2.2.1 (by decide +kernel))

set_option maxHeartbeats 2000000 in
theorem awake11_calls (w : World) : Calls Try.prog 10 #[] w fun e w' => e = .returned (.bool true) ∧ Below w.heap.size w w' := by
  have s1 := Lib.hid sound_yes
  have s2 := Lib.hid sound_no
  have n1 : Hid (besI (upto 3) 1 1 = (2, true)) := by unfold Hid; decide
  have n2 : Hid (besI (upto 3) 2 1 = (0, false)) := by unfold Hid; decide
  have n3 : Hid (atI (upto 3) 0 = (0, true)) := by unfold Hid; decide
  have n4 : Hid (atI (upto 3) ((upto 3).length - 1) = (2, true)) := by unfold Hid; decide
  go_enter Try.func10, Try.ntmps10
  go_wp2_with fail
  refine (first_calls 2 1 (by omega) (by omega) _).mono ?_
  rintro e w1 ⟨v, rfl, ho, hb1⟩
  obtain ⟨A1, l1, cp1, rfl⟩ := ho.shape
  have H1 := Lib.hid (ho.reads.there)
  have Hb1 := Lib.hid hb1
  clear ho hb1
  go_wp2_with fail
  refine (next_calls 1 _ (upto 3) 1 _ _ (H1.out.below ((Below.refl _ _).alloc (Nat.le_refl _) _))).mono ?_
  rintro e w2 ⟨rfl, hb2⟩
  rw [n1.out]
  have B2 := Lib.hid ((Bk.new w1 24 #[.int .i64 1, .slice A1 l1 cp1]).below hb2 (by simp))
  have H2 := Lib.hid ((H1.out.below ((Below.refl _ _).alloc (Nat.le_refl _) (.cells #[.int .i64 1, .slice A1 l1 cp1] 24))).below hb2)
  have Hb2 : Hid (Below w.heap.size w w2) := (Hb1.out.alloc Hb1.out.size _).trans (hb2.mono (by have := Hb1.out.size; simp; omega))
  clear H1 Hb1 hb2
  have c0 := B2.out.cell 0
  have c1 := B2.out.cell 1
  simp at c0 c1
  go_wp2_with fail
  refine (next_calls 1 _ (upto 3) 2 _ _ H2.out).mono ?_
  rintro e w3 ⟨rfl, hb3⟩
  rw [n2.out]
  have B3 := Lib.hid (B2.out.below hb3 B2.out.lt)
  have H3 := Lib.hid (H2.out.below hb3)
  have Hb3 : Hid (Below w.heap.size w w3) := Hb2.out.trans (hb3.mono Hb2.out.size)
  clear c0 c1 B2 H2 Hb2 hb3
  have c0 := B3.out.cell 0
  have c1 := B3.out.cell 1
  simp at c0 c1
  go_wp2_with fail
  refine (head_calls 1 _ (upto 3) _ _ H3.out).mono ?_
  rintro e w4 ⟨rfl, hb4⟩
  rw [n3.out]
  have B4 := Lib.hid (B3.out.below hb4 B3.out.lt)
  have H4 := Lib.hid (H3.out.below hb4)
  have Hb4 : Hid (Below w.heap.size w w4) := Hb3.out.trans (hb4.mono Hb3.out.size)
  clear c0 c1 B3 H3 Hb3 hb4
  have c0 := B4.out.cell 0
  have c1 := B4.out.cell 1
  simp at c0 c1
  go_wp2_with fail
  refine (tail_calls 1 _ (upto 3) _ _ H4.out).mono ?_
  rintro e w5 ⟨rfl, hb5⟩
  rw [n4.out]
  have B5 := Lib.hid (B4.out.below hb5 B4.out.lt)
  have H5 := Lib.hid (H4.out.below hb5)
  have Hb5 : Hid (Below w.heap.size w w5) := Hb4.out.trans (hb5.mono Hb4.out.size)
  clear c0 c1 B4 H4 Hb4 hb5
  have c0 := B5.out.cell 0
  have c1 := B5.out.cell 1
  simp at c0 c1
  go_wp2_with fail
  refine (ints_calls _ _ (upto 3) [0, 1, 2] _ _ _ (H5.out.below ((Below.refl _ _).alloc (Nat.le_refl _) _)) (by exact sl_lit i64v _ _ _ [0, 1, 2] _ _ _ _ rfl rfl rfl (by simp))).mono ?_
  rintro e w6 ⟨rfl, n6, rfl⟩
  have hd : decide (upto 3 = [0, 1, 2]) = true := by decide
  rw [hd]
  clear hd
  have hb6 : Below w5.heap.size w5 ((w5.alloc (.cells #[.int .i64 0, .int .i64 1, .int .i64 2] 3)).drewN n6) := below_drewN ((Below.refl _ _).alloc (Nat.le_refl _) _) n6
  have B6 := Lib.hid (B5.out.below hb6 B5.out.lt)
  have H6 := Lib.hid (H5.out.below hb6)
  have Hb6 : Hid (Below w.heap.size w _) := Hb5.out.trans (hb6.mono Hb5.out.size)
  generalize (w5.alloc (.cells #[.int .i64 0, .int .i64 1, .int .i64 2] 3)).drewN n6 = w6 at *
  clear c0 c1 B5 H5 Hb5 hb6
  have c0 := B6.out.cell 0
  have c1 := B6.out.cell 1
  simp at c0 c1
  go_wp2_with fail
  refine (sound_calls 1 _ (upto 3) 2 1 _ _ H6.out).mono ?_
  rintro e w7 ⟨rfl, hb7⟩
  rw [s1.out]
  have B7 := Lib.hid (B6.out.below hb7 B6.out.lt)
  have H7 := Lib.hid (H6.out.below hb7)
  have Hb7 : Hid (Below w.heap.size w w7) := Hb6.out.trans (hb7.mono Hb6.out.size)
  clear c0 c1 B6 H6 Hb6 hb7
  have c0 := B7.out.cell 0
  have c1 := B7.out.cell 1
  simp at c0 c1
  go_wp2_with fail
  refine (sound_calls 1 _ (upto 3) 2 2 _ _ H7.out).mono ?_
  rintro e w8 ⟨rfl, hb8⟩
  rw [s2.out]
  go_wp2_with fail
  go_ret
  exact ⟨rfl, Hb7.out.trans (hb8.mono Hb7.out.size)⟩
end Go.Proofs.Ytgmiilkdkhlolaa
