/- MatInverts, walked. -/
import Derived.Test.YtddmifbgbmjdaabRank
import Derived.Test.YtddmifbgbmjdaabMatMulsLaw
set_option linter.unusedVariables false
set_option linter.unusedSimpArgs false
namespace Go.Proofs.Ytddmifbgbmjdaab
open Go.RowKit

set_option maxHeartbeats 8000000 in
set_option maxRecDepth 100000 in
theorem mat_inverts (va : Value) (A : List (List UInt8)) (w : World) (ha : MatR (· < w.heap.size) w va A) :
    Calls Try.prog 4 #[va] w fun e w' => e = .returned (.bool true) ∧ Below w.heap.size w w' := by
  have HA0 := Lib.hid ha
  obtain ⟨AA, cpa, rfl, -, -⟩ := ha.shape
  clear ha
  go_enter Try.func4, Try.ntmps4
  go_wp2_with fail
  refine (cut_calls _ A _ _ HA0.out).mono ?_
  rintro e w1 ⟨a, ra, rfl, hoa, hb1⟩
  have HW1 := Lib.hid hb1
  have HA1 : Hid (MatR (w.heap.size ≤ ·) w1 a (cutL A)) := cut_reads hoa
  clear hoa hb1 HA0
  have Hla : Hid ((cutL A).length ≤ 12) := cutL_length A
  generalize cutL A = A at *
  obtain ⟨Aa, ca, rfl, -, -⟩ := HA1.out.shape
  by_cases hfit : Snd A ∧ A.length = (A.headD []).length
  · obtain ⟨s1, s2⟩ := hfit
    have SA : Hid (decide (Snd A) = true) := decide_eq_true s1
    obtain ⟨r, n, FA, eA, hr, hn, hr1, hn1⟩ := snd_form s1
    obtain rfl : r = n := by omega
    have hr12 : r ≤ 12 := by have := Hla.out; omega
    rw [← hr] at HA1
    rw [← hr]
    rw [eA] at HA1 SA
    clear s1 s2 eA hr hn Hla
    go_wp2_with fail
    refine (inverse_calls _ r FA _ _ HA1.out (by omega) (by omega)).mono ?_
    rintro e w2 ⟨(⟨x, rx, Fo, rfl, hox, hi1, hi2⟩ | ⟨rfl, x, c, hc, hx, hk⟩), hb2⟩
    · have HX2 := Lib.hid hox.mat
      have HA2 := Lib.hid (HA1.out.below hb2)
      have HW2 : Hid (Below w.heap.size w w2) := HW1.out.trans (hb2.mono HW1.out.size)
      have HI1 : Hid (decide (tab r r (mulF r Fo FA) = tab r r oneF) = true) := decide_eq_true (tab_congr _ _ _ _ hi1)
      have HI2 : Hid (decide (tab r r (mulF r FA Fo) = tab r r oneF) = true) := decide_eq_true (tab_congr _ _ _ _ hi2)
      have SX : Hid (decide (Snd (tab r r Fo)) = true) := decide_eq_true (snd_tab (by omega) (by omega))
      clear hox hi1 hi2 hb2 HA1
      obtain ⟨Ax, cx, rfl, -, -⟩ := HX2.out.form
      go_wp2_with fail
      refine (rsound_calls _ _ _ _ HA2.out).mono ?_
      rintro e w3 ⟨rfl, n3, rfl⟩
      rw [SA.out]
      have HA3 := Lib.hid (HA2.out.below (below_drewN (Below.refl _ _) n3))
      have HX3 := Lib.hid (HX2.out.below (below_drewN (Below.refl _ _) n3))
      have HW3 : Hid (Below w.heap.size w (w2.drewN n3)) := below_drewN HW2.out n3
      clear HA2 HX2
      generalize w2.drewN n3 = w3 at *
      obtain ⟨a0, rv0, e, hp0, hc0, hr0⟩ := HA3.out.row 0 (by omega)
      subst e
      obtain ⟨A0, cp0, rfl, _, _⟩ := hr0
      rw [add_zero] at hc0
      rw [rowL_length] at *
      have ha0 : (0 : Int) < (r : Int) := by omega
      have hne : ((r : Int) != (r : Int)) = false := by simp
      go_wp2_with fail
      refine (awake02_calls _).mono ?_
      rintro e w4 ⟨rfl, hb4⟩
      have HA4 := Lib.hid (HA3.out.below hb4)
      have HX4 := Lib.hid (HX3.out.below hb4)
      have HW4 : Hid (Below w.heap.size w w4) := HW3.out.trans (hb4.mono HW3.out.size)
      clear HA3 HX3 hb4 hc0
      go_wp2_with fail
      refine (rsound_calls _ _ _ _ HX4.out).mono ?_
      rintro e w5 ⟨rfl, n5, rfl⟩
      rw [SX.out]
      have HA5 := Lib.hid (HA4.out.below (below_drewN (Below.refl _ _) n5))
      have HX5 := Lib.hid (HX4.out.below (below_drewN (Below.refl _ _) n5))
      have HW5 : Hid (Below w.heap.size w (w4.drewN n5)) := below_drewN HW4.out n5
      clear HA4 HX4
      generalize w4.drewN n5 = w5 at *
      obtain ⟨x0, rw0, e, hq0, hd0, hs0⟩ := HX5.out.row 0 (by omega)
      subst e
      obtain ⟨X0, cq0, rfl, _, _⟩ := hs0
      rw [add_zero] at hd0
      rw [rowL_length] at *
      have hee : ((r : Int) == (r : Int)) = true := by simp
      go_wp2_with fail
      refine (rproduct_calls _ _ r r r Fo FA _ _ _ HX5.out HA5.out (by omega) (by omega) (by omega) (by omega)).mono ?_
      rintro e w6 ⟨p, rp, rfl, hop, hb6⟩
      have HP6 := Lib.hid hop.mat
      have HA6 := Lib.hid (HA5.out.below hb6)
      have HX6 := Lib.hid (HX5.out.below hb6)
      have HW6 : Hid (Below w.heap.size w w6) := HW5.out.trans (hb6.mono HW5.out.size)
      clear hop hb6 HA5 HX5 hd0
      go_wp2_with fail
      refine (rone_calls r (by omega) _).mono ?_
      rintro e w7 ⟨o, ro, rfl, hoo, hb7⟩
      have HO7 := Lib.hid hoo.mat
      have HP7 := Lib.hid (HP6.out.below hb7)
      have HA7 := Lib.hid (HA6.out.below hb7)
      have HX7 := Lib.hid (HX6.out.below hb7)
      have HW7 : Hid (Below w.heap.size w w7) := HW6.out.trans (hb7.mono HW6.out.size)
      clear hoo hb7 HA6 HX6 HP6
      go_wp2_with fail
      refine (same_calls _ _ _ _ _ _ _ HP7.out HO7.out).mono ?_
      rintro e w8 ⟨rfl, n8, rfl⟩
      rw [HI1.out]
      have HA8 := Lib.hid (HA7.out.below (below_drewN (Below.refl _ _) n8))
      have HX8 := Lib.hid (HX7.out.below (below_drewN (Below.refl _ _) n8))
      have HW8 : Hid (Below w.heap.size w (w7.drewN n8)) := below_drewN HW7.out n8
      clear HA7 HX7 HP7 HO7
      generalize w7.drewN n8 = w8 at *
      go_wp2_with fail
      refine (rproduct_calls _ _ r r r FA Fo _ _ _ HA8.out HX8.out (by omega) (by omega) (by omega) (by omega)).mono ?_
      rintro e w9 ⟨p2, rp2, rfl, hop, hb9⟩
      have HP9 := Lib.hid hop.mat
      have HW9 : Hid (Below w.heap.size w w9) := HW8.out.trans (hb9.mono HW8.out.size)
      clear hop hb9 HA8 HX8
      go_wp2_with fail
      refine (rone_calls r (by omega) _).mono ?_
      rintro e w10 ⟨o2, ro2, rfl, hoo, hb10⟩
      have HO10 := Lib.hid hoo.mat
      have HP10 := Lib.hid (HP9.out.below hb10)
      have HW10 : Hid (Below w.heap.size w w10) := HW9.out.trans (hb10.mono HW9.out.size)
      clear hoo hb10 HP9
      go_wp2_with fail
      refine (same_calls _ _ _ _ _ _ _ HP10.out HO10.out).mono ?_
      rintro e w11 ⟨rfl, n11, rfl⟩
      rw [HI2.out]
      go_wp2_with fail
      go_ret
      exact ⟨rfl, below_drewN HW10.out n11⟩
    · have HA2 := Lib.hid (HA1.out.below hb2)
      have HW2 : Hid (Below w.heap.size w w2) := HW1.out.trans (hb2.mono HW1.out.size)
      have Hx := Lib.hid hx
      have Hk := Lib.hid hk
      clear hb2 HA1 hx hk
      go_wp2_with fail
      refine (rsound_calls _ _ _ _ HA2.out).mono ?_
      rintro e w3 ⟨rfl, n3, rfl⟩
      rw [SA.out]
      have HA3 := Lib.hid (HA2.out.below (below_drewN (Below.refl _ _) n3))
      have HW3 : Hid (Below w.heap.size w (w2.drewN n3)) := below_drewN HW2.out n3
      clear HA2
      generalize w2.drewN n3 = w3 at *
      obtain ⟨a0, rv0, e, hp0, hc0, hr0⟩ := HA3.out.row 0 (by omega)
      subst e
      obtain ⟨A0, cp0, rfl, _, _⟩ := hr0
      rw [add_zero] at hc0
      rw [rowL_length] at *
      have ha0 : (0 : Int) < (r : Int) := by omega
      have hne : ((r : Int) != (r : Int)) = false := by simp
      go_wp2_with fail
      refine (awake02_calls _).mono ?_
      rintro e w4 ⟨rfl, hb4⟩
      have HA4 := Lib.hid (HA3.out.below hb4)
      have HW4 : Hid (Below w.heap.size w w4) := HW3.out.trans (hb4.mono HW3.out.size)
      clear HA3 hb4 hc0
      go_wp2_with fail
      refine (rank_calls _ r FA _ _ HA4.out (by omega) (by omega) x c hc Hx.out Hk.out).mono ?_
      rintro e w5 ⟨⟨q, rfl, hq⟩, hb5⟩
      have hq' : (q : Int) < (r : Int) := by omega
      have HW5 : Hid (Below w.heap.size w w5) := HW4.out.trans (hb5.mono HW4.out.size)
      clear hb5
      go_wp2_with fail
      go_ret
      exact ⟨rfl, HW5.out⟩
  · go_wp2_with fail
    refine (inverse_bad _ A _ _ HA1.out hfit).mono ?_
    rintro e w2 ⟨rfl, hb2⟩
    have HA2 := Lib.hid (HA1.out.below hb2)
    have HW2 : Hid (Below w.heap.size w w2) := HW1.out.trans (hb2.mono HW1.out.size)
    have Hf := Lib.hid hfit
    clear hb2 HA1 hfit
    go_wp2_with fail
    refine (rsound_calls _ _ _ _ HA2.out).mono ?_
    rintro e w3 ⟨rfl, n3, rfl⟩
    have HA3 := Lib.hid (HA2.out.below (below_drewN (Below.refl _ _) n3))
    have HW3 : Hid (Below w.heap.size w (w2.drewN n3)) := below_drewN HW2.out n3
    clear HA2
    generalize w2.drewN n3 = w3 at *
    by_cases hs : Snd A
    · rw [decide_eq_true hs]
      have h0 := hs.1
      have hne2 : A.length ≠ (A.headD []).length := fun e => Hf.out ⟨hs, e⟩
      clear hs
      have ha0 : (0 : Int) < (A.length : Int) := by omega
      obtain ⟨am, A0, c0, e, hp, hcell⟩ := HA3.out.first h0
      subst e
      have hne : ((A.length : Int) != ((A.headD []).length : Int)) = true := by rw [bne_iff_ne]; omega
      generalize (A.headD []).length = n0 at *
      clear hne2
      go_wp2_with fail
      refine (awake02_calls _).mono ?_
      rintro e w4 ⟨rfl, hb4⟩
      go_wp2_with fail
      go_ret
      exact ⟨rfl, HW3.out.trans (hb4.mono HW3.out.size)⟩
    · rw [decide_eq_false hs]
      clear hs
      go_wp2_with fail
      refine (awake02_calls _).mono ?_
      rintro e w4 ⟨rfl, hb4⟩
      go_wp2_with fail
      go_ret
      exact ⟨rfl, HW3.out.trans (hb4.mono HW3.out.size)⟩
end Go.Proofs.Ytddmifbgbmjdaab
