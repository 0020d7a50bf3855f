/- GfMuls, GfInvs, GfPows, GfNone, walked. -/
import Derived.Test.YtddmifbgbmjdaaaGfLaw
set_option linter.unusedVariables false
set_option linter.unusedSimpArgs false
namespace Go.Proofs.Ytddmifbgbmjdaaa
open Go.RowKit

theorem xor_b8 (a b : UInt8) : bits .xor .u8 (a.toNat : Int) (b.toNat : Int) = ((a ^^^ b).toNat : Int) := by rw [UInt8.toNat_xor]; exact u8_xor_nat _ _ a.toNat_lt b.toNat_lt

set_option maxHeartbeats 2000000 in
theorem gf_muls (a b : UInt8) (w : World) : Calls Try.prog 7 #[.int .u8 (a.toNat : Int), .int .u8 (b.toNat : Int)] w fun e w' => e = .returned (.bool true) ∧ Below w.heap.size w w' := by
  have hx := xor_b8 a b
  go_enter Try.func7, Try.ntmps7
  go_wp2_with fail
  refine (made_calls _).mono ?_
  rintro e w1 ⟨rfl, ht, hb⟩
  have Ht := Lib.hid ht
  have Hb := Lib.hid hb
  clear ht hb
  go_wp2_with fail
  refine (awake01_calls _).mono ?_
  rintro e w2 ⟨rfl, hb2⟩
  have Ht2 := Lib.hid (Ht.out.below hb2 Ht.out.lt)
  have Hb2 := Lib.hid (Hb.out.trans (hb2.mono Hb.out.size))
  clear Ht Hb hb2
  go_wp2_with fail
  refine (add8 a b _).mono ?_
  rintro e w3 ⟨rfl, rfl⟩
  go_wp2_with fail
  refine (mul8 a b _).mono ?_
  rintro e w3 ⟨rfl, rfl⟩
  go_wp2_with fail
  refine (refmul8 a b _).mono ?_
  rintro e w3 ⟨rfl, rfl⟩
  go_wp2_with fail
  refine (tmul8 _ a b _ Ht2.out).mono ?_
  rintro e w3 ⟨rfl, D⟩
  go_wp2_with fail
  refine (refmul8 a b _).mono ?_
  rintro e w4 ⟨rfl, rfl⟩
  go_wp2_with fail
  go_ret
  exact ⟨by simp, Hb2.out.trans (D.below _)⟩
set_option maxHeartbeats 2000000 in
theorem gf_none (a b : UInt8) (w : World) : Calls Try.prog 14 #[.int .u8 (a.toNat : Int), .int .u8 (b.toNat : Int)] w fun e w' => e = .returned (.bool true) ∧ Below w.heap.size w w' := by
  go_enter Try.func14, Try.ntmps14
  go_wp2_with fail
  refine (awake01_calls _).mono ?_
  rintro e w2 ⟨rfl, hb2⟩
  go_wp2_with fail
  refine (tmul_nil a b _).mono ?_
  rintro e w3 ⟨rfl, rfl⟩
  go_wp2_with fail
  refine (tinv_nil a _).mono ?_
  rintro e w3 ⟨rfl, rfl⟩
  go_wp2_with fail
  go_ret
  exact ⟨rfl, hb2⟩
set_option maxHeartbeats 2000000 in
theorem gf_invs (a : UInt8) (w : World) : Calls Try.prog 13 #[.int .u8 (a.toNat : Int)] w fun e w' => e = .returned (.bool true) ∧ Below w.heap.size w w' := by
  by_cases ha : a = 0
  · subst ha
    have H0 : Hid (ginv 0 = 0) := ginv_zero
    have hz : (((0 : UInt8).toNat : Int) == 0) = true := rfl
    go_enter Try.func13, Try.ntmps13
    go_wp2_with fail
    refine Calls.mono (show Calls _ _ #[.int .u8 0] _ _ from inv8 0 _) ?_
    rintro e w1 ⟨rfl, rfl⟩
    rw [H0.out]
    go_wp2_with fail
    refine (made_calls _).mono ?_
    rintro e w1 ⟨rfl, ht, hb⟩
    have Ht := Lib.hid ht
    have Hb := Lib.hid hb
    clear ht hb
    go_wp2_with fail
    refine (awake01_calls _).mono ?_
    rintro e w2 ⟨rfl, hb2⟩
    have Ht2 := Lib.hid (Ht.out.below hb2 Ht.out.lt)
    have Hb2 := Lib.hid (Hb.out.trans (hb2.mono Hb.out.size))
    clear Ht Hb hb2
    go_wp2_with fail
    refine Calls.mono (show Calls _ _ #[_, .int .u8 0] _ _ from tinv8 _ 0 _ Ht2.out) ?_
    rintro e w3 ⟨rfl, D⟩
    rw [H0.out]
    go_wp2_with fail
    go_ret
    exact ⟨by simp, Hb2.out.trans (D.below _)⟩
  · have h1 : ((a.toNat : Int) == 0) = false := by rw [u8_zero, decide_eq_false ha]
    have H1 : Hid (gmul a (ginv a) = 1) := gmul_inv a ha
    clear ha
    go_enter Try.func13, Try.ntmps13
    go_wp2_with fail
    refine (inv8 a _).mono ?_
    rintro e w1 ⟨rfl, rfl⟩
    go_wp2_with fail
    refine (made_calls _).mono ?_
    rintro e w1 ⟨rfl, ht, hb⟩
    have Ht := Lib.hid ht
    have Hb := Lib.hid hb
    clear ht hb
    go_wp2_with fail
    refine (awake01_calls _).mono ?_
    rintro e w2 ⟨rfl, hb2⟩
    have Ht2 := Lib.hid (Ht.out.below hb2 Ht.out.lt)
    have Hb2 := Lib.hid (Hb.out.trans (hb2.mono Hb.out.size))
    clear Ht Hb hb2
    go_wp2_with fail
    refine (refmul8 a (ginv a) _).mono ?_
    rintro e w3 ⟨rfl, rfl⟩
    rw [H1.out]
    go_wp2_with fail
    refine (tinv8 _ a _ Ht2.out).mono ?_
    rintro e w3 ⟨rfl, D⟩
    go_wp2_with fail
    go_ret
    exact ⟨by simp, Hb2.out.trans (D.below _)⟩
theorem emod_small (n : Int) : ∃ m : Nat, m < 255 ∧ n % 255 = (m : Int) := ⟨(n % 255).toNat, by omega, by omega⟩
set_option maxHeartbeats 2000000 in
set_option maxRecDepth 10000 in
theorem gf_pows (n : Int) (a : UInt8) (w : World) (hn : -9223372036854775808 ≤ n ∧ n ≤ 9223372036854775807) : Calls Try.prog 8 #[.int .i64 n, .int .u8 (a.toNat : Int)] w fun e w' => e = .returned (.bool true) ∧ Below w.heap.size w w' := by
  have Hp := Lib.hid (pow8 n hn)
  obtain ⟨m, hm, hmn⟩ := emod_small n
  have Hm : Hid ((n % 255).toNat = m) := by unfold Hid; omega
  have hk : (0 ≤ n.tmod 255 ∧ n.tmod 255 = (m : Int)) ∨ (n.tmod 255 < 0 ∧ n.tmod 255 + 255 = (m : Int)) := by
    have h1 := Int.tmod_eq_emod (a := n) (b := 255)
    rw [h1]
    split <;> simp <;> omega
  have HM : Hid (m ≤ 1000000) := by unfold Hid; omega
  clear hmn hn
  rcases hk with ⟨hk0, hk1⟩ | ⟨hk0, hk1⟩
  · have Hk := Lib.hid hk1
    have hk2 : n.tmod 255 ≤ 254 := by omega
    clear hk1
    by_cases ha : a = 0
    · subst ha
      have hl : Hid (logI 0 = (0, false)) := by unfold Hid logI; rw [if_pos rfl]
      have hz : (((0 : UInt8).toNat : Int) != 0) = false := rfl
      go_enter Try.func8, Try.ntmps8
      go_wp2_with fail
      rw [Hk.out]
      refine Calls.mono (show Calls _ _ #[.int .u8 0] _ _ from log8 0 _) ?_
      rintro e w1 ⟨rfl, rfl⟩
      rw [hl.out]
      go_wp2_with fail
      refine (Hp.out _).mono ?_
      rintro e w1 ⟨rfl, rfl⟩
      rw [Hm.out]
      go_wp2_with fail
      refine Calls.mono (show Calls _ _ #[.int .u8 2, _] _ _ from refpow8 2 m HM.out _) ?_
      rintro e w1 ⟨rfl, rfl⟩
      go_wp2_with fail
      refine (awake01_calls _).mono ?_
      rintro e w2 ⟨rfl, hb2⟩
      go_wp2_with fail
      go_ret
      exact ⟨rfl, hb2⟩
    · have hl : Hid (logI a = ((glog a : Int), true)) := by unfold Hid logI; rw [if_neg ha]
      have hz : ((a.toNat : Int) != 0) = true := by rw [bne_iff_ne]; intro e; exact ha (u8_ext (by simpa using e))
      have Hg : Hid (gpow 2 (glog a) = a) := glog_exp ha
      have hg1 := glog_lt a
      clear ha
      go_enter Try.func8, Try.ntmps8
      go_wp2_with fail
      rw [Hk.out]
      refine (log8 a _).mono ?_
      rintro e w1 ⟨rfl, rfl⟩
      rw [hl.out]
      go_wp2_with fail
      refine (Hp.out _).mono ?_
      rintro e w1 ⟨rfl, rfl⟩
      rw [Hm.out]
      go_wp2_with fail
      refine Calls.mono (show Calls _ _ #[.int .u8 2, _] _ _ from refpow8 2 m HM.out _) ?_
      rintro e w1 ⟨rfl, rfl⟩
      go_wp2_with fail
      refine (awake01_calls _).mono ?_
      rintro e w2 ⟨rfl, hb2⟩
      go_wp2_with fail
      refine Calls.mono (show Calls _ _ #[.int .u8 2, _] _ _ from refpow8 2 (glog a) (by have := glog_lt a; omega) _) ?_
      rintro e w3 ⟨rfl, rfl⟩
      rw [Hg.out]
      go_wp2_with fail
      go_ret
      exact ⟨by simp, hb2⟩
  · have Hk := Lib.hid hk1
    have hk2 : -255 ≤ n.tmod 255 := by omega
    clear hk1
    by_cases ha : a = 0
    · subst ha
      have hl : Hid (logI 0 = (0, false)) := by unfold Hid logI; rw [if_pos rfl]
      have hz : (((0 : UInt8).toNat : Int) != 0) = false := rfl
      go_enter Try.func8, Try.ntmps8
      go_wp2_with fail
      rw [Hk.out]
      refine Calls.mono (show Calls _ _ #[.int .u8 0] _ _ from log8 0 _) ?_
      rintro e w1 ⟨rfl, rfl⟩
      rw [hl.out]
      go_wp2_with fail
      refine (Hp.out _).mono ?_
      rintro e w1 ⟨rfl, rfl⟩
      rw [Hm.out]
      go_wp2_with fail
      refine Calls.mono (show Calls _ _ #[.int .u8 2, _] _ _ from refpow8 2 m HM.out _) ?_
      rintro e w1 ⟨rfl, rfl⟩
      go_wp2_with fail
      refine (awake01_calls _).mono ?_
      rintro e w2 ⟨rfl, hb2⟩
      go_wp2_with fail
      go_ret
      exact ⟨rfl, hb2⟩
    · have hl : Hid (logI a = ((glog a : Int), true)) := by unfold Hid logI; rw [if_neg ha]
      have hz : ((a.toNat : Int) != 0) = true := by rw [bne_iff_ne]; intro e; exact ha (u8_ext (by simpa using e))
      have Hg : Hid (gpow 2 (glog a) = a) := glog_exp ha
      have hg1 := glog_lt a
      clear ha
      go_enter Try.func8, Try.ntmps8
      go_wp2_with fail
      rw [Hk.out]
      refine (log8 a _).mono ?_
      rintro e w1 ⟨rfl, rfl⟩
      rw [hl.out]
      go_wp2_with fail
      refine (Hp.out _).mono ?_
      rintro e w1 ⟨rfl, rfl⟩
      rw [Hm.out]
      go_wp2_with fail
      refine Calls.mono (show Calls _ _ #[.int .u8 2, _] _ _ from refpow8 2 m HM.out _) ?_
      rintro e w1 ⟨rfl, rfl⟩
      go_wp2_with fail
      refine (awake01_calls _).mono ?_
      rintro e w2 ⟨rfl, hb2⟩
      go_wp2_with fail
      refine Calls.mono (show Calls _ _ #[.int .u8 2, _] _ _ from refpow8 2 (glog a) (by have := glog_lt a; omega) _) ?_
      rintro e w3 ⟨rfl, rfl⟩
      rw [Hg.out]
      go_wp2_with fail
      go_ret
      exact ⟨by simp, hb2⟩
end Go.Proofs.Ytddmifbgbmjdaaa
