/- MatMuls, walked. -/
import Derived.Test.YtddmifbgbmjdaabLaw02
set_option linter.unusedVariables false
set_option linter.unusedSimpArgs false
namespace Go.Proofs.Ytddmifbgbmjdaab
open Go.RowKit

theorem snd_form {M : List (List UInt8)} (h : Snd M) : ∃ r c F, M = tab r c F ∧ r = M.length ∧ c = (M.headD []).length ∧ 1 ≤ r ∧ 1 ≤ c := ⟨M.length, (M.headD []).length, mget M, h.2.2.tab, rfl, rfl, h.1, h.2.1⟩
theorem range_getD (M : List (List UInt8)) : ((List.range M.length).map fun i => M.getD i []) = M := by
  refine List.ext_getElem (by simp) fun j h1 h2 => ?_
  simp [List.getD_eq_getElem?_getD, List.getElem?_eq_getElem h2]
theorem cut_reads {w : World} {base : Nat} {v : Value} {M : List (List UInt8)} {rv : Nat → Value} (h : OwnMat w base v M.length rv (fun i => M.getD i [])) : MatR (base ≤ ·) w v M := by
  have := h.reads
  rw [range_getD] at this
  exact this
theorem cutL_head (M : List (List UInt8)) : ((cutL M).headD []).length ≤ 12 := by
  cases h : cutL M with
  | nil => simp
  | cons a l => exact cutL_row M a (by rw [h]; simp)
set_option maxHeartbeats 8000000 in
set_option maxRecDepth 100000 in
theorem mat_muls (va : Value) (A : List (List UInt8)) (vb : Value) (B : List (List UInt8)) (w : World) (ha : MatR (· < w.heap.size) w va A) (hb : MatR (· < w.heap.size) w vb B) :
    Calls Try.prog 3 #[va, vb] w fun e w' => e = .returned (.bool true) ∧ Below w.heap.size w w' := by
  have HA0 := Lib.hid ha
  have HB0 := Lib.hid hb
  obtain ⟨AA, cpa, rfl, -, -⟩ := ha.shape
  obtain ⟨AB, cpb, rfl, -, -⟩ := hb.shape
  clear ha hb
  go_enter Try.func3, Try.ntmps3
  go_wp2_with fail
  refine (cut_calls _ A _ _ HA0.out).mono ?_
  rintro e w1 ⟨a, ra, rfl, hoa, hb1⟩
  have HW1 := Lib.hid hb1
  have HA1 : Hid (MatR (w.heap.size ≤ ·) w1 a (cutL A)) := cut_reads hoa
  clear hoa hb1
  go_wp2_with fail
  refine (cut_calls _ B _ _ (HB0.out.below HW1.out)).mono ?_
  rintro e w2 ⟨b, rb, rfl, hob, hb2⟩
  have HW2 : Hid (Below w.heap.size w w2) := HW1.out.trans (hb2.mono HW1.out.size)
  have HB2 : Hid (MatR (w1.heap.size ≤ ·) w2 b (cutL B)) := cut_reads hob
  have HA2 : Hid (MatR (w.heap.size ≤ ·) w2 a (cutL A)) := HA1.out.below hb2
  clear hob hb2 HA1
  have Hla : Hid ((cutL A).length ≤ 12) := cutL_length A
  have Hlb : Hid ((cutL B).length ≤ 12) := cutL_length B
  have Hha : Hid (((cutL A).headD []).length ≤ 12) := cutL_head A
  have Hhb : Hid (((cutL B).headD []).length ≤ 12) := cutL_head B
  generalize cutL A = A at *
  generalize cutL B = B at *
  obtain ⟨Aa, ca, rfl, -, -⟩ := HA2.out.shape
  obtain ⟨Ab, cb, rfl, -, -⟩ := HB2.out.shape
  by_cases hfit : Snd A ∧ Snd B ∧ (A.headD []).length = B.length
  · obtain ⟨s1, s2, s3⟩ := hfit
    have SA : Hid (decide (Snd A) = true) := decide_eq_true s1
    have SB : Hid (decide (Snd B) = true) := decide_eq_true s2
    obtain ⟨r, n, FA, eA, hr, hn, hr1, hn1⟩ := snd_form s1
    obtain ⟨n', c, FB, eB, hn', hc, hn1', hc1⟩ := snd_form s2
    obtain rfl : n = n' := by omega
    have hr12 : r ≤ 12 := by have := Hla.out; omega
    have hn12 : n ≤ 12 := by have := Hlb.out; omega
    have hc12 : c ≤ 12 := by have := Hhb.out; omega
    rw [← hr] at HA2
    rw [← hn'] at HB2
    rw [← hr, ← hn']
    rw [eA] at HA2 SA
    rw [eB] at HB2 SB
    clear s1 s2 s3 eA eB hr hn hn' hc Hla Hlb Hha Hhb
    go_wp2_with fail
    refine (mmul_calls _ _ r n c FA FB _ _ _ HA2.out HB2.out (by omega) (by omega) (by omega) (by omega) (by omega) (by omega)).mono ?_
    rintro e w3 ⟨m, rm, rfl, hom, hb3⟩
    have HM3 : Hid (MatR (w2.heap.size ≤ ·) w3 m (tab r c (mulF n FA FB))) := hom.mat
    have HA3 : Hid (MatR (w.heap.size ≤ ·) w3 (.slice Aa r ca) (tab r n FA)) := HA2.out.below hb3
    have HB3 : Hid (MatR (w1.heap.size ≤ ·) w3 (.slice Ab n cb) (tab n c FB)) := HB2.out.below hb3
    have HW3 : Hid (Below w.heap.size w w3) := HW2.out.trans (hb3.mono HW2.out.size)
    clear hom hb3 HA2 HB2
    obtain ⟨Am, cm, rfl, -, -⟩ := HM3.out.form
    go_wp2_with fail
    refine (rsound_calls _ _ _ _ HA3.out).mono ?_
    rintro e w4 ⟨rfl, n4, rfl⟩
    rw [SA.out]
    have hbd : Below w3.heap.size w3 (w3.drewN n4) := below_drewN (Below.refl _ _) n4
    have HA4 := Lib.hid (HA3.out.below hbd)
    have HB4 := Lib.hid (HB3.out.below hbd)
    have HM4 := Lib.hid (HM3.out.below hbd)
    have HW4 : Hid (Below w.heap.size w (w3.drewN n4)) := below_drewN HW3.out n4
    clear hbd HA3 HB3 HM3
    generalize w3.drewN n4 = w4 at *
    go_wp2_with fail
    refine (rsound_calls _ _ _ _ HB4.out).mono ?_
    rintro e w5 ⟨rfl, n5, rfl⟩
    rw [SB.out]
    have hbd : Below w4.heap.size w4 (w4.drewN n5) := below_drewN (Below.refl _ _) n5
    have HA5 := Lib.hid (HA4.out.below hbd)
    have HB5 := Lib.hid (HB4.out.below hbd)
    have HM5 := Lib.hid (HM4.out.below hbd)
    have HW5 : Hid (Below w.heap.size w (w4.drewN n5)) := below_drewN HW4.out n5
    clear hbd HA4 HB4 HM4
    generalize w4.drewN n5 = w5 at *
    obtain ⟨a0, rv0, e, hp0, hc0, hr0⟩ := HA5.out.row 0 (by omega)
    subst e
    obtain ⟨A0, cp0, rfl, _, _⟩ := hr0
    rw [add_zero] at hc0
    rw [rowL_length] at *
    have ha0 : (0 : Int) < (r : Int) := by omega
    have hne : ((n : Int) != (n : Int)) = false := by simp
    go_wp2_with fail
    refine (awake02_calls _).mono ?_
    rintro e w6 ⟨rfl, hb6⟩
    have HA6 := Lib.hid (HA5.out.below hb6)
    have HB6 := Lib.hid (HB5.out.below hb6)
    have HM6 := Lib.hid (HM5.out.below hb6)
    have HW6 : Hid (Below w.heap.size w w6) := HW5.out.trans (hb6.mono HW5.out.size)
    clear hb6 HA5 HB5 HM5 hc0
    go_wp2_with fail
    refine (rproduct_calls _ _ r n c FA FB _ _ _ HA6.out HB6.out (by omega) (by omega) (by omega) (by omega)).mono ?_
    rintro e w7 ⟨p, rp, rfl, hop, hb7⟩
    have HP7 : Hid (MatR (w6.heap.size ≤ ·) w7 p (tab r c (mulF n FA FB))) := hop.mat
    have HM7 := Lib.hid (HM6.out.below hb7)
    have HW7 : Hid (Below w.heap.size w w7) := HW6.out.trans (hb7.mono HW6.out.size)
    clear hb7 hop
    go_wp2_with fail
    refine (same_calls _ _ _ _ _ _ _ HM7.out HP7.out).mono ?_
    rintro e w8 ⟨rfl, n8, rfl⟩
    rw [decide_eq_true (rfl : tab r c (mulF n FA FB) = tab r c (mulF n FA FB))]
    go_wp2_with fail
    go_ret
    exact ⟨rfl, below_drewN HW7.out n8⟩
  · go_wp2_with fail
    refine (mmul_bad _ _ A B _ _ _ HA2.out HB2.out hfit).mono ?_
    rintro e w3 ⟨rfl, hb3⟩
    have HA3 := Lib.hid (HA2.out.below hb3)
    have HB3 := Lib.hid (HB2.out.below hb3)
    have HW3 : Hid (Below w.heap.size w w3) := HW2.out.trans (hb3.mono HW2.out.size)
    clear hb3 HA2 HB2
    have hcase := Lib.hid (not_fit hfit)
    clear hfit
    go_wp2_with fail
    refine (rsound_calls _ _ _ _ HA3.out).mono ?_
    rintro e w4 ⟨rfl, n4, rfl⟩
    have hbd : Below w3.heap.size w3 (w3.drewN n4) := below_drewN (Below.refl _ _) n4
    have HA4 := Lib.hid (HA3.out.below hbd)
    have HB4 := Lib.hid (HB3.out.below hbd)
    have HW4 : Hid (Below w.heap.size w (w3.drewN n4)) := below_drewN HW3.out n4
    clear hbd HA3 HB3
    generalize w3.drewN n4 = w4 at *
    rcases hcase.out with h | ⟨h, h'⟩ | ⟨h, h', h2⟩
    · have SA := Lib.hid h
      clear h hcase
      rw [SA.out]
      have HA5 := HA4
      have HB5 := HB4
      have HW5 := HW4
      go_wp2_with fail
      refine (awake02_calls _).mono ?_
      rintro e w6 ⟨rfl, hb6⟩
      have HA6 := Lib.hid (HA5.out.below hb6)
      have HB6 := Lib.hid (HB5.out.below hb6)
      have HW6 : Hid (Below w.heap.size w w6) := HW5.out.trans (hb6.mono HW5.out.size)
      clear hb6 HA5 HB5 HW5
      go_wp2_with fail
      refine (msound_calls _ _ _ _ HA6.out).mono ?_
      rintro e w7 ⟨rfl, hb7⟩
      rw [SA.out]
      have HA7 := Lib.hid (HA6.out.below hb7)
      have HB7 := Lib.hid (HB6.out.below hb7)
      have HW7 : Hid (Below w.heap.size w w7) := HW6.out.trans (hb7.mono HW6.out.size)
      clear hb7 HA6 HB6 HW6
      go_wp2_with fail
      refine (rsound_calls _ _ _ _ HA7.out).mono ?_
      rintro e w8 ⟨rfl, n8, rfl⟩
      rw [SA.out]
      have HB8 : Hid (MatR (w1.heap.size ≤ ·) (w7.drewN n8) (.slice Ab B.length cb) B) := HB7.out.below (below_drewN (Below.refl _ _) n8)
      have HW8 : Hid (Below w.heap.size w (w7.drewN n8)) := below_drewN HW7.out n8
      clear HA7 HB7 HW7
      generalize w7.drewN n8 = w8 at *
      go_wp2_with fail
      refine (msound_calls _ _ _ _ HB8.out).mono ?_
      rintro e w9 ⟨rfl, hb9⟩
      have HB9 := Lib.hid (HB8.out.below hb9)
      have HW9 : Hid (Below w.heap.size w w9) := HW8.out.trans (hb9.mono HW8.out.size)
      clear hb9 HB8 HW8
      go_wp2_with fail
      refine (rsound_calls _ _ _ _ HB9.out).mono ?_
      rintro e w10 ⟨rfl, n10, rfl⟩
      cases decide (Snd B)
      all_goals
        go_wp2_with fail
        go_ret
        exact ⟨rfl, below_drewN HW9.out n10⟩
    · have SA := Lib.hid h
      have SB := Lib.hid h'
      clear h h' hcase
      rw [SA.out]
      go_wp2_with fail
      refine (rsound_calls _ _ _ _ HB4.out).mono ?_
      rintro e w5 ⟨rfl, n5, rfl⟩
      rw [SB.out]
      have hbd : Below w4.heap.size w4 (w4.drewN n5) := below_drewN (Below.refl _ _) n5
      have HA5 := Lib.hid (HA4.out.below hbd)
      have HB5 := Lib.hid (HB4.out.below hbd)
      have HW5 : Hid (Below w.heap.size w (w4.drewN n5)) := below_drewN HW4.out n5
      clear hbd HA4 HB4 HW4
      generalize w4.drewN n5 = w5 at *
      go_wp2_with fail
      refine (awake02_calls _).mono ?_
      rintro e w6 ⟨rfl, hb6⟩
      have HA6 := Lib.hid (HA5.out.below hb6)
      have HB6 := Lib.hid (HB5.out.below hb6)
      have HW6 : Hid (Below w.heap.size w w6) := HW5.out.trans (hb6.mono HW5.out.size)
      clear hb6 HA5 HB5 HW5
      go_wp2_with fail
      refine (msound_calls _ _ _ _ HA6.out).mono ?_
      rintro e w7 ⟨rfl, hb7⟩
      rw [SA.out]
      have HA7 := Lib.hid (HA6.out.below hb7)
      have HB7 := Lib.hid (HB6.out.below hb7)
      have HW7 : Hid (Below w.heap.size w w7) := HW6.out.trans (hb7.mono HW6.out.size)
      clear hb7 HA6 HB6 HW6
      go_wp2_with fail
      refine (rsound_calls _ _ _ _ HA7.out).mono ?_
      rintro e w8 ⟨rfl, n8, rfl⟩
      rw [SA.out]
      have HB8 : Hid (MatR (w1.heap.size ≤ ·) (w7.drewN n8) (.slice Ab B.length cb) B) := HB7.out.below (below_drewN (Below.refl _ _) n8)
      have HW8 : Hid (Below w.heap.size w (w7.drewN n8)) := below_drewN HW7.out n8
      clear HA7 HB7 HW7
      generalize w7.drewN n8 = w8 at *
      go_wp2_with fail
      refine (msound_calls _ _ _ _ HB8.out).mono ?_
      rintro e w9 ⟨rfl, hb9⟩
      rw [SB.out]
      have HB9 := Lib.hid (HB8.out.below hb9)
      have HW9 : Hid (Below w.heap.size w w9) := HW8.out.trans (hb9.mono HW8.out.size)
      clear hb9 HB8 HW8
      go_wp2_with fail
      refine (rsound_calls _ _ _ _ HB9.out).mono ?_
      rintro e w10 ⟨rfl, n10, rfl⟩
      rw [SB.out]
      go_wp2_with fail
      go_ret
      exact ⟨rfl, below_drewN HW9.out n10⟩
    · have SA : Hid (decide (Snd A) = true) := decide_eq_true h
      have SB : Hid (decide (Snd B) = true) := decide_eq_true h'
      have h0 := h.1
      have h0' := h'.1
      clear h h' hcase
      rw [SA.out]
      go_wp2_with fail
      refine (rsound_calls _ _ _ _ HB4.out).mono ?_
      rintro e w5 ⟨rfl, n5, rfl⟩
      rw [SB.out]
      have hbd : Below w4.heap.size w4 (w4.drewN n5) := below_drewN (Below.refl _ _) n5
      have HA5 := Lib.hid (HA4.out.below hbd)
      have HB5 := Lib.hid (HB4.out.below hbd)
      have HW5 : Hid (Below w.heap.size w (w4.drewN n5)) := below_drewN HW4.out n5
      clear hbd HA4 HB4 HW4
      generalize w4.drewN n5 = w5 at *
      have ha0 : (0 : Int) < (A.length : Int) := by omega
      obtain ⟨am, A0, c0, e, hp, hcell⟩ := HA5.out.first h0
      subst e
      have hne : (((A.headD []).length : Int) != (B.length : Int)) = true := by rw [bne_iff_ne]; omega
      generalize (A.headD []).length = n0 at *
      clear h2
      go_wp2_with fail
      refine (awake02_calls _).mono ?_
      rintro e w6 ⟨rfl, hb6⟩
      have HA6 := Lib.hid (HA5.out.below hb6)
      have HB6 := Lib.hid (HB5.out.below hb6)
      have HW6 : Hid (Below w.heap.size w w6) := HW5.out.trans (hb6.mono HW5.out.size)
      clear hb6 HA5 HB5 HW5
      go_wp2_with fail
      refine (msound_calls _ _ _ _ HA6.out).mono ?_
      rintro e w7 ⟨rfl, hb7⟩
      rw [SA.out]
      have HA7 := Lib.hid (HA6.out.below hb7)
      have HB7 := Lib.hid (HB6.out.below hb7)
      have HW7 : Hid (Below w.heap.size w w7) := HW6.out.trans (hb7.mono HW6.out.size)
      clear hb7 HA6 HB6 HW6
      go_wp2_with fail
      refine (rsound_calls _ _ _ _ HA7.out).mono ?_
      rintro e w8 ⟨rfl, n8, rfl⟩
      rw [SA.out]
      have HB8 : Hid (MatR (w1.heap.size ≤ ·) (w7.drewN n8) (.slice Ab B.length cb) B) := HB7.out.below (below_drewN (Below.refl _ _) n8)
      have HW8 : Hid (Below w.heap.size w (w7.drewN n8)) := below_drewN HW7.out n8
      clear HA7 HB7 HW7
      generalize w7.drewN n8 = w8 at *
      go_wp2_with fail
      refine (msound_calls _ _ _ _ HB8.out).mono ?_
      rintro e w9 ⟨rfl, hb9⟩
      rw [SB.out]
      have HB9 := Lib.hid (HB8.out.below hb9)
      have HW9 : Hid (Below w.heap.size w w9) := HW8.out.trans (hb9.mono HW8.out.size)
      clear hb9 HB8 HW8
      go_wp2_with fail
      refine (rsound_calls _ _ _ _ HB9.out).mono ?_
      rintro e w10 ⟨rfl, n10, rfl⟩
      rw [SB.out]
      go_wp2_with fail
      go_ret
      exact ⟨rfl, below_drewN HW9.out n10⟩
end Go.Proofs.Ytddmifbgbmjdaab
