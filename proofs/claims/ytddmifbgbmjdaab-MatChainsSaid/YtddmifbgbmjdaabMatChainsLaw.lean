/- MatChains, walked. -/
import Derived.Test.YtddmifbgbmjdaabMatMulsLaw
set_option linter.unusedVariables false
set_option linter.unusedSimpArgs false
namespace Go.Proofs.Ytddmifbgbmjdaab
open Go.RowKit

set_option maxHeartbeats 8000000 in
set_option maxRecDepth 100000 in
theorem mat_chains (va : Value) (A : List (List UInt8)) (vb : Value) (B : List (List UInt8)) (vc : Value) (C : List (List UInt8)) (w : World) (ha : MatR (· < w.heap.size) w va A) (hb : MatR (· < w.heap.size) w vb B) (hc : MatR (· < w.heap.size) w vc C) :
    Calls Try.prog 6 #[va, vb, vc] w fun e w' => e = .returned (.bool true) ∧ Below w.heap.size w w' := by
  have HA0 := Lib.hid ha
  have HB0 := Lib.hid hb
  have HC0 := Lib.hid hc
  obtain ⟨AA, cpa, rfl, -, -⟩ := ha.shape
  obtain ⟨AB, cpb, rfl, -, -⟩ := hb.shape
  obtain ⟨AC, cpc, rfl, -, -⟩ := hc.shape
  clear ha hb hc
  go_enter Try.func6, Try.ntmps6
  go_wp2_with fail
  refine (cut_calls _ A _ _ HA0.out).mono ?_
  rintro e w1 ⟨a, ra, rfl, hoa, hb1⟩
  have HW1 := Lib.hid hb1
  have HA1 : Hid (MatR (w.heap.size ≤ ·) w1 a (cutL A)) := cut_reads hoa
  clear hoa hb1
  go_wp2_with fail
  refine (cut_calls _ B _ _ (HB0.out.below HW1.out)).mono ?_
  rintro e w2 ⟨b, rb, rfl, hob, hb2⟩
  have HW2 : Hid (Below w.heap.size w w2) := HW1.out.trans (hb2.mono HW1.out.size)
  have HB2 : Hid (MatR (w1.heap.size ≤ ·) w2 b (cutL B)) := cut_reads hob
  have HA2 : Hid (MatR (w.heap.size ≤ ·) w2 a (cutL A)) := HA1.out.below hb2
  clear hob hb2 HA1
  go_wp2_with fail
  refine (cut_calls _ C _ _ (HC0.out.below HW2.out)).mono ?_
  rintro e w3 ⟨c, rc, rfl, hoc, hb3⟩
  have HW3 : Hid (Below w.heap.size w w3) := HW2.out.trans (hb3.mono HW2.out.size)
  have HC3 : Hid (MatR (w2.heap.size ≤ ·) w3 c (cutL C)) := cut_reads hoc
  have HA3 : Hid (MatR (w.heap.size ≤ ·) w3 a (cutL A)) := HA2.out.below hb3
  have HB3 : Hid (MatR (w1.heap.size ≤ ·) w3 b (cutL B)) := HB2.out.below hb3
  clear hoc hb3 HA2 HB2 HW1 HW2 HA0 HB0 HC0
  have Hla : Hid ((cutL A).length ≤ 12) := cutL_length A
  have Hlb : Hid ((cutL B).length ≤ 12) := cutL_length B
  have Hlc : Hid ((cutL C).length ≤ 12) := cutL_length C
  have Hha : Hid (((cutL A).headD []).length ≤ 12) := cutL_head A
  have Hhb : Hid (((cutL B).headD []).length ≤ 12) := cutL_head B
  have Hhc : Hid (((cutL C).headD []).length ≤ 12) := cutL_head C
  generalize cutL A = A at *
  generalize cutL B = B at *
  generalize cutL C = C at *
  obtain ⟨Aa, ca, rfl, -, -⟩ := HA3.out.shape
  obtain ⟨Ab, cb, rfl, -, -⟩ := HB3.out.shape
  obtain ⟨Ac, cc, rfl, -, -⟩ := HC3.out.shape
  by_cases hfit : Snd A ∧ Snd B ∧ (A.headD []).length = B.length
  · by_cases hfit2 : Snd B ∧ Snd C ∧ (B.headD []).length = C.length
    · obtain ⟨s1, s2, s3⟩ := hfit
      obtain ⟨-, s4, s5⟩ := hfit2
      obtain ⟨r, n, FA, eA, hr, hn, hr1, hn1⟩ := snd_form s1
      obtain ⟨n', c, FB, eB, hn', hc, hn1', hc1⟩ := snd_form s2
      obtain ⟨c', d, FC, eC, hc', hd, hc1', hd1⟩ := snd_form s4
      obtain rfl : n = n' := by omega
      obtain rfl : c = c' := by omega
      have hr12 : r ≤ 12 := by have := Hla.out; omega
      have hn12 : n ≤ 12 := by have := Hlb.out; omega
      have hc12 : c ≤ 12 := by have := Hlc.out; omega
      have hd12 : d ≤ 12 := by have := Hhc.out; omega
      rw [← hr] at HA3
      rw [← hn'] at HB3
      rw [← hc'] at HC3
      rw [← hr, ← hn', ← hc']
      rw [eA] at HA3
      rw [eB] at HB3
      rw [eC] at HC3
      clear s1 s2 s3 s4 s5 eA eB eC hr hn hn' hc hc' hd Hla Hlb Hlc Hha Hhb Hhc
      go_wp2_with fail
      refine (mmul_calls _ _ r n c FA FB _ _ _ HA3.out HB3.out (by omega) (by omega) (by omega) (by omega) (by omega) (by omega)).mono ?_
      rintro e w4 ⟨x, rx, rfl, hox, hb4⟩
      have HX4 := Lib.hid hox.mat
      have HA4 := Lib.hid (HA3.out.below hb4)
      have HB4 := Lib.hid (HB3.out.below hb4)
      have HC4 := Lib.hid (HC3.out.below hb4)
      have HW4 : Hid (Below w.heap.size w w4) := HW3.out.trans (hb4.mono HW3.out.size)
      clear hox hb4 HA3 HB3 HC3
      go_wp2_with fail
      refine (mmul_calls _ _ n c d FB FC _ _ _ HB4.out HC4.out (by omega) (by omega) (by omega) (by omega) (by omega) (by omega)).mono ?_
      rintro e w5 ⟨y, ry, rfl, hoy, hb5⟩
      have HY5 := Lib.hid hoy.mat
      have HX5 := Lib.hid (HX4.out.below hb5)
      have HA5 := Lib.hid (HA4.out.below hb5)
      have HC5 := Lib.hid (HC4.out.below hb5)
      have HW5 : Hid (Below w.heap.size w w5) := HW4.out.trans (hb5.mono HW4.out.size)
      clear hoy hb5 HA4 HB4 HC4 HX4
      go_wp2_with fail
      refine (mmul_calls _ _ r c d (mulF n FA FB) FC _ _ _ HX5.out HC5.out (by omega) (by omega) (by omega) (by omega) (by omega) (by omega)).mono ?_
      rintro e w6 ⟨p, rp, rfl, hop, hb6⟩
      have HP6 := Lib.hid hop.mat
      have HY6 := Lib.hid (HY5.out.below hb6)
      have HA6 := Lib.hid (HA5.out.below hb6)
      have HW6 : Hid (Below w.heap.size w w6) := HW5.out.trans (hb6.mono HW5.out.size)
      clear hop hb6 HA5 HC5 HX5 HY5
      go_wp2_with fail
      refine (mmul_calls _ _ r n d FA (mulF c FB FC) _ _ _ HA6.out HY6.out (by omega) (by omega) (by omega) (by omega) (by omega) (by omega)).mono ?_
      rintro e w7 ⟨q, rq, rfl, hoq, hb7⟩
      have HQ7 := Lib.hid hoq.mat
      have HP7 := Lib.hid (HP6.out.below hb7)
      have HA7 := Lib.hid (HA6.out.below hb7)
      have HW7 : Hid (Below w.heap.size w w7) := HW6.out.trans (hb7.mono HW6.out.size)
      clear hoq hb7 HA6 HY6 HP6
      obtain ⟨a0, rv0, e, hp0, hc0, hr0⟩ := HA7.out.row 0 (by omega)
      subst e
      obtain ⟨A0, cp0, rfl, _, _⟩ := hr0
      rw [add_zero] at hc0
      rw [rowL_length] at *
      have ha0 : (0 : Int) < (r : Int) := by omega
      go_wp2_with fail
      refine (one_calls n (by omega) (by omega) _).mono ?_
      rintro e w8 ⟨o, ro, rfl, hoo, hb8⟩
      have HO8 := Lib.hid hoo.mat
      have HQ8 := Lib.hid (HQ7.out.below hb8)
      have HP8 := Lib.hid (HP7.out.below hb8)
      have HA8 := Lib.hid (HA7.out.below hb8)
      have HW8 : Hid (Below w.heap.size w w8) := HW7.out.trans (hb8.mono HW7.out.size)
      clear hoo hb8 HA7 HQ7 HP7 hc0
      go_wp2_with fail
      refine (mmul_calls _ _ r n n FA oneF _ _ _ HA8.out HO8.out (by omega) (by omega) (by omega) (by omega) (by omega) (by omega)).mono ?_
      rintro e w9 ⟨i, ri, rfl, hoi, hb9⟩
      have HI9 := Lib.hid hoi.mat
      have HQ9 := Lib.hid (HQ8.out.below hb9)
      have HP9 := Lib.hid (HP8.out.below hb9)
      have HA9 := Lib.hid (HA8.out.below hb9)
      have HW9 : Hid (Below w.heap.size w w9) := HW8.out.trans (hb9.mono HW8.out.size)
      clear hoi hb9 HA8 HQ8 HP8 HO8
      go_wp2_with fail
      refine (awake02_calls _).mono ?_
      rintro e w10 ⟨rfl, hb10⟩
      have HI10 := Lib.hid (HI9.out.below hb10)
      have HQ10 := Lib.hid (HQ9.out.below hb10)
      have HP10 := Lib.hid (HP9.out.below hb10)
      have HA10 := Lib.hid (HA9.out.below hb10)
      have HW10 : Hid (Below w.heap.size w w10) := HW9.out.trans (hb10.mono HW9.out.size)
      clear hb10 HA9 HQ9 HP9 HI9
      go_wp2_with fail
      refine (same_calls _ _ _ _ _ _ _ HP10.out HQ10.out).mono ?_
      rintro e w11 ⟨rfl, n11, rfl⟩
      have e1 : decide (tab r d (mulF c (mulF n FA FB) FC) = tab r d (mulF n FA (mulF c FB FC))) = true := decide_eq_true (tab_congr _ _ _ _ fun i k _ _ => mulF_assoc n c FA FB FC i k)
      rw [e1]
      clear e1
      have HA11 := Lib.hid (HA10.out.below (below_drewN (Below.refl _ _) n11))
      have HI11 := Lib.hid (HI10.out.below (below_drewN (Below.refl _ _) n11))
      have HW11 : Hid (Below w.heap.size w (w10.drewN n11)) := below_drewN HW10.out n11
      clear HA10 HQ10 HP10 HI10
      generalize w10.drewN n11 = w11 at *
      go_wp2_with fail
      refine (same_calls _ _ _ _ _ _ _ HI11.out HA11.out).mono ?_
      rintro e w12 ⟨rfl, n12, rfl⟩
      have e1 : decide (tab r n (mulF n FA oneF) = tab r n FA) = true := decide_eq_true (tab_congr _ _ _ _ fun i k _ hk => mulF_one n FA i k hk)
      rw [e1]
      clear e1
      go_wp2_with fail
      go_ret
      exact ⟨rfl, below_drewN HW11.out n12⟩
    · obtain ⟨s1, s2, s3⟩ := hfit
      obtain ⟨r, n, FA, eA, hr, hn, hr1, hn1⟩ := snd_form s1
      obtain ⟨n', c, FB, eB, hn', hc, hn1', hc1⟩ := snd_form s2
      obtain rfl : n = n' := by omega
      have hr12 : r ≤ 12 := by have := Hla.out; omega
      have hn12 : n ≤ 12 := by have := Hlb.out; omega
      have hc12 : c ≤ 12 := by have := Hhb.out; omega
      rw [← hr] at HA3
      rw [← hn'] at HB3
      rw [← hr, ← hn']
      have HB3t := HB3
      rw [eA] at HA3
      rw [eB] at HB3t
      have Hf2 := Lib.hid hfit2
      have HeB := Lib.hid eB
      clear s1 s2 s3 eA eB hr hn hn' hc Hla Hlb Hlc Hha Hhb Hhc hfit2
      go_wp2_with fail
      refine (mmul_calls _ _ r n c FA FB _ _ _ HA3.out HB3t.out (by omega) (by omega) (by omega) (by omega) (by omega) (by omega)).mono ?_
      rintro e w4 ⟨x, rx, rfl, hox, hb4⟩
      have HB4 := Lib.hid (HB3.out.below hb4)
      have HC4 := Lib.hid (HC3.out.below hb4)
      have HW4 : Hid (Below w.heap.size w w4) := HW3.out.trans (hb4.mono HW3.out.size)
      clear hox hb4 HA3 HB3 HC3 HB3t
      go_wp2_with fail
      refine (mmul_bad _ _ B C _ _ _ HB4.out HC4.out Hf2.out).mono ?_
      rintro e w5 ⟨rfl, hb5⟩
      have HW5 : Hid (Below w.heap.size w w5) := HW4.out.trans (hb5.mono HW4.out.size)
      clear hb5
      go_wp2_with fail
      refine (awake02_calls _).mono ?_
      rintro e w6 ⟨rfl, hb6⟩
      go_wp2_with fail
      go_ret
      exact ⟨rfl, HW5.out.trans (hb6.mono HW5.out.size)⟩
  · go_wp2_with fail
    refine (mmul_bad _ _ A B _ _ _ HA3.out HB3.out hfit).mono ?_
    rintro e w4 ⟨rfl, hb4⟩
    have HB4 := Lib.hid (HB3.out.below hb4)
    have HC4 := Lib.hid (HC3.out.below hb4)
    have HW4 : Hid (Below w.heap.size w w4) := HW3.out.trans (hb4.mono HW3.out.size)
    clear hb4 HA3 HB3 HC3 hfit
    by_cases hfit2 : Snd B ∧ Snd C ∧ (B.headD []).length = C.length
    · obtain ⟨s2, s4, s5⟩ := hfit2
      obtain ⟨n, c, FB, eB, hn, hc, hn1, hc1⟩ := snd_form s2
      obtain ⟨c', d, FC, eC, hc', hd, hc1', hd1⟩ := snd_form s4
      obtain rfl : c = c' := by omega
      have hn12 : n ≤ 12 := by have := Hlb.out; omega
      have hc12 : c ≤ 12 := by have := Hlc.out; omega
      have hd12 : d ≤ 12 := by have := Hhc.out; omega
      rw [← hn] at HB4
      rw [← hc'] at HC4
      rw [← hn, ← hc']
      rw [eB] at HB4
      rw [eC] at HC4
      clear s2 s4 s5 eB eC hn hc hc' hd Hla Hlb Hlc Hha Hhb Hhc
      go_wp2_with fail
      refine (mmul_calls _ _ n c d FB FC _ _ _ HB4.out HC4.out (by omega) (by omega) (by omega) (by omega) (by omega) (by omega)).mono ?_
      rintro e w5 ⟨y, ry, rfl, hoy, hb5⟩
      have HW5 : Hid (Below w.heap.size w w5) := HW4.out.trans (hb5.mono HW4.out.size)
      clear hb5 hoy
      go_wp2_with fail
      refine (awake02_calls _).mono ?_
      rintro e w6 ⟨rfl, hb6⟩
      go_wp2_with fail
      go_ret
      exact ⟨rfl, HW5.out.trans (hb6.mono HW5.out.size)⟩
    · go_wp2_with fail
      refine (mmul_bad _ _ B C _ _ _ HB4.out HC4.out hfit2).mono ?_
      rintro e w5 ⟨rfl, hb5⟩
      have HW5 : Hid (Below w.heap.size w w5) := HW4.out.trans (hb5.mono HW4.out.size)
      clear hb5
      go_wp2_with fail
      refine (awake02_calls _).mono ?_
      rintro e w6 ⟨rfl, hb6⟩
      go_wp2_with fail
      go_ret
      exact ⟨rfl, HW5.out.trans (hb6.mono HW5.out.size)⟩
end Go.Proofs.Ytddmifbgbmjdaab
