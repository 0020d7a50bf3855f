/- GfEvals, walked. -/
import Derived.Test.YtddmifbgbmjdaaaGfLaw1
set_option linter.unusedVariables false
set_option linter.unusedSimpArgs false
namespace Go.Proofs.Ytddmifbgbmjdaaa
open Go.RowKit

theorem eval_step (o pw x g c : UInt8) : (o ^^^ gmul c pw) ^^^ gmul (gmul pw x) g = o ^^^ gmul pw (gmul g x ^^^ c) := by
  rw [gmul_xor, gmul_comm c pw, gmul_assoc, gmul_comm x g]
  generalize gmul pw (gmul g x) = p
  generalize gmul pw c = q
  refine u8_ext ?_
  simp only [UInt8.toNat_xor]
  ac_rfl
theorem xor_zero8 (a : UInt8) : a ^^^ 0 = a := u8_ext (by rw [UInt8.toNat_xor]; exact Nat.xor_zero _)
theorem zero_xor8 (a : UInt8) : 0 ^^^ a = a := u8_ext (by rw [UInt8.toNat_xor]; exact Nat.zero_xor _)
set_option maxHeartbeats 4000000 in
set_option maxRecDepth 10000 in
theorem gf_evals (v : Value) (l0 : List UInt8) (x : UInt8) (w : World) (hv : Bytes (· < w.heap.size) w v l0) : Calls Try.prog 9 #[v, .int .u8 (x.toNat : Int)] w fun e w' => e = .returned (.bool true) ∧ Below w.heap.size w w' := by
  by_cases hlen : l0.length ≤ 300
  · have Hv := Lib.hid hv
    obtain ⟨A, cp, rfl, hl, hc⟩ := hv
    obtain ⟨l, hll⟩ : ∃ l, l = l0 := ⟨l0, rfl⟩
    subst hll
    have Hlen := Lib.hid hlen
    go_enter Try.func9, Try.ntmps9
    go_wp2_with fail
    go_loop [5, 6, 7] (fun o pw i => ∃ (k : Nat) (a b : UInt8), k ≤ l.length ∧ i = .int .i64 k ∧ o = .int .u8 (a.toNat : Int) ∧ pw = .int .u8 (b.toNat : Int) ∧ Hid (a ^^^ gmul b (geval x (l.drop k)) = geval x l)) (fun _ _ i => l.length - (intOf i).toNat)
    case atStart => exact ⟨0, 0, 1, Nat.zero_le _, rfl, rfl, rfl, by unfold Hid; rw [one_gmul, zero_xor8]; rfl⟩
    case round =>
      obtain ⟨k, a, b, hk, rfl, rfl, rfl, H⟩ := hrel
      by_cases hlt : k < l.length
      · obtain ⟨ad, rfl, hb, hcell⟩ := rd_at hc k hlt
        have Hs : Hid (geval x (l.drop k) = gmul (geval x (l.drop (k + 1))) x ^^^ l[k]'(by omega)) := by
          rw [List.drop_eq_getElem_cons (by omega)]; rfl
        have H2 : Hid ((a ^^^ gmul l[k] b) ^^^ gmul (gmul b x) (geval x (l.drop (k + 1))) = geval x l) := by
          unfold Hid; rw [eval_step, ← Hs.out]; exact H.out
        have hx := xor_b8 a (gmul l[k] b)
        generalize l[k]'(by omega) = c at *
        clear hc
        go_wp2_with fail
        refine (refmul8 c b _).mono ?_
        rintro e w1 ⟨rfl, rfl⟩
        go_wp2_with fail
        refine (refmul8 b x _).mono ?_
        rintro e w1 ⟨rfl, rfl⟩
        go_wp2_with fail
        go_round
        case rel => exact ⟨k + 1, _, _, by omega, by go_num, rfl, rfl, H2⟩
        case measure => simp [intOf]; omega
      · obtain rfl : k = l.length := by omega
        have H2 : Hid (geval x l = a) := by
          unfold Hid
          rw [← H.out, List.drop_length]
          exact (by rw [show geval x [] = 0 from rfl, gmul_zero, xor_zero8] : a ^^^ gmul b (geval x []) = a)
        clear hc
        go_wp2_with fail
        refine (awake01_calls _).mono ?_
        rintro e w2 ⟨rfl, hb2⟩
        go_wp2_with fail
        refine (eval8 _ l x _ _ (Hv.out.below hb2) (by have := Hlen.out; omega)).mono ?_
        rintro e w3 ⟨rfl, D⟩
        rw [H2.out]
        go_wp2_with fail
        go_ret
        exact ⟨by simp, hb2.trans (D.below _)⟩
  · have hv2 := hv
    obtain ⟨A, cp, rfl, hl0, -⟩ := hv2
    have Hv0 := hv.cut 300 (by omega)
    obtain ⟨l, hll⟩ : ∃ l, l0.take 300 = l := ⟨_, rfl⟩
    have hl300 : l.length = 300 := by rw [← hll]; simp; omega
    rw [hll] at Hv0
    have Hv1 : Hid (Bytes (· < w.heap.size) w (.slice A 300 cp) l) := Hv0
    obtain ⟨A', cp', e0, hl, hc⟩ := Hv0
    simp only [Value.slice.injEq] at e0
    obtain ⟨rfl, -, rfl⟩ := e0
    have Hlen : Hid (l.length ≤ 300) := by unfold Hid; omega
    have Hv : Hid (Bytes (· < w.heap.size) w (.slice A l.length cp) l) := by rw [hl300]; exact Hv1.out
    have H300 : Hid ((300 : Nat) = l.length) := hl300.symm
    have hd300 : decide ((300 : Int) < (l0.length : Int)) = true := decide_eq_true (by omega)
    clear hv hll Hv1 hl300
    go_enter Try.func9, Try.ntmps9
    go_wp2_with fail
    rw [H300.out]
    go_loop [5, 6, 7] (fun o pw i => ∃ (k : Nat) (a b : UInt8), k ≤ l.length ∧ i = .int .i64 k ∧ o = .int .u8 (a.toNat : Int) ∧ pw = .int .u8 (b.toNat : Int) ∧ Hid (a ^^^ gmul b (geval x (l.drop k)) = geval x l)) (fun _ _ i => l.length - (intOf i).toNat)
    case atStart => exact ⟨0, 0, 1, Nat.zero_le _, rfl, rfl, rfl, by unfold Hid; rw [one_gmul, zero_xor8]; rfl⟩
    case round =>
      obtain ⟨k, a, b, hk, rfl, rfl, rfl, H⟩ := hrel
      by_cases hlt : k < l.length
      · obtain ⟨ad, rfl, hb, hcell⟩ := rd_at hc k hlt
        have Hs : Hid (geval x (l.drop k) = gmul (geval x (l.drop (k + 1))) x ^^^ l[k]'(by omega)) := by
          rw [List.drop_eq_getElem_cons (by omega)]; rfl
        have H2 : Hid ((a ^^^ gmul l[k] b) ^^^ gmul (gmul b x) (geval x (l.drop (k + 1))) = geval x l) := by
          unfold Hid; rw [eval_step, ← Hs.out]; exact H.out
        have hx := xor_b8 a (gmul l[k] b)
        generalize l[k]'(by omega) = c at *
        clear hc
        go_wp2_with fail
        refine (refmul8 c b _).mono ?_
        rintro e w1 ⟨rfl, rfl⟩
        go_wp2_with fail
        refine (refmul8 b x _).mono ?_
        rintro e w1 ⟨rfl, rfl⟩
        go_wp2_with fail
        go_round
        case rel => exact ⟨k + 1, _, _, by omega, by go_num, rfl, rfl, H2⟩
        case measure => simp [intOf]; omega
      · obtain rfl : k = l.length := by omega
        have H2 : Hid (geval x l = a) := by
          unfold Hid
          rw [← H.out, List.drop_length]
          exact (by rw [show geval x [] = 0 from rfl, gmul_zero, xor_zero8] : a ^^^ gmul b (geval x []) = a)
        clear hc
        go_wp2_with fail
        refine (awake01_calls _).mono ?_
        rintro e w2 ⟨rfl, hb2⟩
        go_wp2_with fail
        refine (eval8 _ l x _ _ (Hv.out.below hb2) (by have := Hlen.out; omega)).mono ?_
        rintro e w3 ⟨rfl, D⟩
        rw [H2.out]
        go_wp2_with fail
        go_ret
        exact ⟨by simp, hb2.trans (D.below _)⟩
end Go.Proofs.Ytddmifbgbmjdaaa
