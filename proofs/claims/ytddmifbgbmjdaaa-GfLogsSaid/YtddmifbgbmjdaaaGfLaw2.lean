/- GfField, GfLogs, walked. -/
import Derived.Test.YtddmifbgbmjdaaaGfLaw1
set_option linter.unusedVariables false
set_option linter.unusedSimpArgs false
namespace Go.Proofs.Ytddmifbgbmjdaaa
open Go.RowKit

theorem xor_self8 (a : UInt8) : a ^^^ a = 0 := u8_ext (by rw [UInt8.toNat_xor, Nat.xor_self]; rfl)
theorem field_inv {a : UInt8} (b : UInt8) (h : a ≠ 0) : gmul (gmul b a) (ginv a) = b := by rw [gmul_assoc, gmul_inv a h, gmul_one]
set_option maxHeartbeats 4000000 in
set_option maxRecDepth 10000 in
theorem gf_field (a b c : UInt8) (w : World) : Calls Try.prog 10 #[.int .u8 (a.toNat : Int), .int .u8 (b.toNat : Int), .int .u8 (c.toNat : Int)] w fun e w' => e = .returned (.bool true) ∧ Below w.heap.size w w' := by
  go_enter Try.func10, Try.ntmps10
  go_wp2_with fail
  refine (mul8 a b _).mono ?_
  rintro e w1 ⟨rfl, rfl⟩
  go_wp2_with fail
  refine (mul8 b a _).mono ?_
  rintro e w1 ⟨rfl, rfl⟩
  rw [gmul_comm b a]
  go_wp2_with fail
  refine (mul8 b c _).mono ?_
  rintro e w1 ⟨rfl, rfl⟩
  go_wp2_with fail
  refine (mul8 a (gmul b c) _).mono ?_
  rintro e w1 ⟨rfl, rfl⟩
  go_wp2_with fail
  refine (mul8 a b _).mono ?_
  rintro e w1 ⟨rfl, rfl⟩
  go_wp2_with fail
  refine (mul8 (gmul a b) c _).mono ?_
  rintro e w1 ⟨rfl, rfl⟩
  rw [gmul_assoc a b c]
  go_wp2_with fail
  refine (add8 b c _).mono ?_
  rintro e w1 ⟨rfl, rfl⟩
  go_wp2_with fail
  refine (mul8 a (b ^^^ c) _).mono ?_
  rintro e w1 ⟨rfl, rfl⟩
  rw [gmul_xor a b c]
  go_wp2_with fail
  refine (mul8 a b _).mono ?_
  rintro e w1 ⟨rfl, rfl⟩
  go_wp2_with fail
  refine (mul8 a c _).mono ?_
  rintro e w1 ⟨rfl, rfl⟩
  go_wp2_with fail
  refine (add8 (gmul a b) (gmul a c) _).mono ?_
  rintro e w1 ⟨rfl, rfl⟩
  go_wp2_with fail
  refine (awake01_calls _).mono ?_
  rintro e w2 ⟨rfl, hb2⟩
  go_wp2_with fail
  refine Calls.mono (show Calls _ _ #[_, .int .u8 1] _ _ from mul8 a 1 _) ?_
  rintro e w1 ⟨rfl, rfl⟩
  rw [gmul_one]
  go_wp2_with fail
  refine Calls.mono (show Calls _ _ #[_, .int .u8 0] _ _ from mul8 a 0 _) ?_
  rintro e w1 ⟨rfl, rfl⟩
  rw [gmul_zero]
  go_wp2_with fail
  refine (add8 a a _).mono ?_
  rintro e w1 ⟨rfl, rfl⟩
  rw [xor_self8]
  by_cases ha : a = 0
  · subst ha
    go_wp2_with fail
    go_ret
    exact ⟨rfl, hb2⟩
  · have h1 : ((a.toNat : Int) == 0) = false := by rw [u8_zero, decide_eq_false ha]
    have Hi := Lib.hid (field_inv b ha)
    clear ha
    go_wp2_with fail
    refine (mul8 b a _).mono ?_
    rintro e w1 ⟨rfl, rfl⟩
    go_wp2_with fail
    refine (inv8 a _).mono ?_
    rintro e w1 ⟨rfl, rfl⟩
    go_wp2_with fail
    refine (mul8 (gmul b a) (ginv a) _).mono ?_
    rintro e w1 ⟨rfl, rfl⟩
    rw [Hi.out]
    go_wp2_with fail
    go_ret
    exact ⟨by simp, hb2⟩

theorem logI_zero : logI 0 = (0, false) := by unfold logI; rw [if_pos rfl]
theorem logI_ne {a : UInt8} (h : a ≠ 0) : logI a = ((glog a : Int), true) := by unfold logI; rw [if_neg h]
theorem pow_sum (la lb : Nat) : gpow 2 (((la : Int) + (lb : Int)) % 255).toNat = gmul (gpow 2 la) (gpow 2 lb) := by
  rw [← gpow_add, ← gpow2_mod (la + lb), show (((la : Int) + (lb : Int)) % 255).toNat = (la + lb) % 255 from by omega]
theorem pow_neg (la : Nat) (h : la < 255) : gpow 2 ((-(la : Int)) % 255).toNat = ginv (gpow 2 la) := by
  rw [ginv_pow la (by omega), ← gpow2_mod (255 - la), show ((-(la : Int)) % 255).toNat = (255 - la) % 255 from by omega]
set_option maxHeartbeats 4000000 in
set_option maxRecDepth 10000 in
theorem gf_logs (a b : UInt8) (w : World) : Calls Try.prog 12 #[.int .u8 (a.toNat : Int), .int .u8 (b.toNat : Int)] w fun e w' => e = .returned (.bool true) ∧ Below w.heap.size w w' := by
  by_cases ha : a = 0
  · subst ha
    have L0 : Hid (logI 0 = (0, false)) := logI_zero
    have M0 : Hid (gmul 0 b = 0) := zero_gmul b
    have hz : (((0 : UInt8).toNat : Int) == 0) = true := rfl
    have Lb : ∃ (n : Int) (f : Bool), Hid (logI b = (n, f)) ∧ Hid (((b.toNat : Int) == 0) = !f) := by
      by_cases hb : b = 0
      · subst hb; exact ⟨0, false, logI_zero, rfl⟩
      · exact ⟨_, true, logI_ne hb, by rw [u8_zero, decide_eq_false hb]; rfl⟩
    obtain ⟨n, f, Lb, hbf⟩ := Lb
    go_enter Try.func12, Try.ntmps12
    go_wp2_with fail
    refine Calls.mono (show Calls _ _ #[.int .u8 0] _ _ from log8 0 _) ?_
    rintro e w1 ⟨rfl, rfl⟩
    rw [L0.out]
    go_wp2_with fail
    refine (log8 b _).mono ?_
    rintro e w1 ⟨rfl, rfl⟩
    rw [Lb.out]
    go_wp2_with fail
    refine Calls.mono (show Calls _ _ #[.int .u8 0, _] _ _ from mul8 0 b _) ?_
    rintro e w1 ⟨rfl, rfl⟩
    rw [M0.out]
    go_wp2_with fail
    refine Calls.mono (show Calls _ _ #[.int .u8 0] _ _ from log8 0 _) ?_
    rintro e w1 ⟨rfl, rfl⟩
    rw [L0.out]
    go_wp2_with fail
    refine (awake01_calls _).mono ?_
    rintro e w2 ⟨rfl, hb2⟩
    have hbf2 := hbf.out
    cases f
    all_goals
      go_wp2_with fail
      go_ret
      exact ⟨rfl, hb2⟩
  · have h1 : ((a.toNat : Int) == 0) = false := by rw [u8_zero, decide_eq_false ha]
    have La := Lib.hid (logI_ne ha)
    have Ga := Lib.hid (glog_exp ha)
    have hga := glog_lt a
    by_cases hb : b = 0
    · subst hb
      have L0 : Hid (logI 0 = (0, false)) := logI_zero
      have M0 : Hid (gmul a 0 = 0) := gmul_zero a
      have hz : (((0 : UInt8).toNat : Int) == 0) = true := rfl
      clear ha
      go_enter Try.func12, Try.ntmps12
      go_wp2_with fail
      refine (log8 a _).mono ?_
      rintro e w1 ⟨rfl, rfl⟩
      rw [La.out]
      go_wp2_with fail
      refine Calls.mono (show Calls _ _ #[.int .u8 0] _ _ from log8 0 _) ?_
      rintro e w1 ⟨rfl, rfl⟩
      rw [L0.out]
      go_wp2_with fail
      refine Calls.mono (show Calls _ _ #[_, .int .u8 0] _ _ from mul8 a 0 _) ?_
      rintro e w1 ⟨rfl, rfl⟩
      rw [M0.out]
      go_wp2_with fail
      refine Calls.mono (show Calls _ _ #[.int .u8 0] _ _ from log8 0 _) ?_
      rintro e w1 ⟨rfl, rfl⟩
      rw [L0.out]
      go_wp2_with fail
      refine (awake01_calls _).mono ?_
      rintro e w2 ⟨rfl, hb2⟩
      go_wp2_with fail
      go_ret
      exact ⟨rfl, hb2⟩
    · have Lb := Lib.hid (logI_ne hb)
      have Gb := Lib.hid (glog_exp hb)
      have hgb := glog_lt b
      have Lm : Hid (logI (gmul a b) = ((((glog a + glog b) % 255 : Nat) : Int), true)) := by unfold Hid; rw [logI_ne (gmul_ne ha hb), glog_mul ha hb]
      have hkk : ((((glog a + glog b) % 255 : Nat) : Int) == ((glog a : Int) + (glog b : Int)) % 255) = true := by rw [beq_iff_eq]; omega
      have P1 : Hid (gpow 2 (((glog a : Int) + (glog b : Int)) % 255).toNat = gmul a b) := by unfold Hid; rw [pow_sum, Ga.out, Gb.out]
      have P2 : Hid (gpow 2 ((-(glog a : Int)) % 255).toNat = ginv a) := by unfold Hid; rw [pow_neg _ hga, Ga.out]
      clear ha hb
      go_enter Try.func12, Try.ntmps12
      go_wp2_with fail
      refine (log8 a _).mono ?_
      rintro e w1 ⟨rfl, rfl⟩
      rw [La.out]
      go_wp2_with fail
      refine (log8 b _).mono ?_
      rintro e w1 ⟨rfl, rfl⟩
      rw [Lb.out]
      go_wp2_with fail
      refine (mul8 a b _).mono ?_
      rintro e w1 ⟨rfl, rfl⟩
      go_wp2_with fail
      refine (log8 (gmul a b) _).mono ?_
      rintro e w1 ⟨rfl, rfl⟩
      rw [Lm.out]
      go_wp2_with fail
      refine (awake01_calls _).mono ?_
      rintro e w2 ⟨rfl, hb2⟩
      go_wp2_with fail
      refine (pow8 _ (by omega) _).mono ?_
      rintro e w1 ⟨rfl, rfl⟩
      rw [P1.out]
      go_wp2_with fail
      refine (mul8 a b _).mono ?_
      rintro e w1 ⟨rfl, rfl⟩
      go_wp2_with fail
      refine (pow8 _ (by omega) _).mono ?_
      rintro e w1 ⟨rfl, rfl⟩
      rw [P2.out]
      go_wp2_with fail
      refine (inv8 a _).mono ?_
      rintro e w1 ⟨rfl, rfl⟩
      go_wp2_with fail
      go_ret
      exact ⟨by simp, hb2⟩
end Go.Proofs.Ytddmifbgbmjdaaa
