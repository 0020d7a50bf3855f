/- The walks of the reference's product and power. -/
import Derived.Test.YtddmifbgbmjdaabGfA
set_option linter.unusedVariables false
set_option linter.unusedSimpArgs false
namespace Go.Proofs.Ytddmifbgbmjdaab
open Go.RowKit

theorem and1_u8s (b k : Nat) (hb : b < 256) : bits .and .u8 ((b : Int) / 2 ^ k) 1 = ((b / 2 ^ k % 2 : Nat) : Int) := by
  have h1 : (b : Int) / 2 ^ k = ((b / 2 ^ k : Nat) : Int) := by simp
  have hd : b / 2 ^ k ≤ b := Nat.div_le_self _ _
  rw [h1, and1_u8 _ (by omega)]
theorem xor_long (l a k : Nat) (hl : l < 65536) (ha : a < 256) (hk : k ≤ 8) : bits .xor .i64 (l : Int) (wrap64 ((a : Int) * 2 ^ k)) = ((l ^^^ (a * 2 ^ k) : Nat) : Int) := by
  have h1 : (a : Int) * 2 ^ k = ((a * 2 ^ k : Nat) : Int) := by simp
  have h2 : a * 2 ^ k ≤ a * 2 ^ 8 := Nat.mul_le_mul_left _ (Nat.pow_le_pow_right (by omega) hk)
  rw [h1, show wrap64 ((a * 2 ^ k : Nat) : Int) = ((a * 2 ^ k : Nat) : Int) from by unfold wrap64; omega, i64_xor_small _ _ (by omega) (by omega)]

theorem xor_long2 (r k : Nat) (hr : r < 65536) (hk : k ≤ 8) : bits .xor .i64 (r : Int) (wrap64 (285 * 2 ^ k)) = ((r ^^^ (285 * 2 ^ k) : Nat) : Int) := by
  have h1 : (285 : Int) * 2 ^ k = ((285 * 2 ^ k : Nat) : Int) := by simp
  have h2 : 285 * 2 ^ k ≤ 285 * 2 ^ 8 := Nat.mul_le_mul_left _ (Nat.pow_le_pow_right (by omega) hk)
  rw [h1, show wrap64 ((285 * 2 ^ k : Nat) : Int) = ((285 * 2 ^ k : Nat) : Int) from by unfold wrap64; omega, i64_xor_small _ _ (by omega) (by omega)]
theorem bit_int64 (q k : Nat) (hq : q < 65536) : bits .and .i64 ((q : Int) / 2 ^ k) 1 = ((q / 2 ^ k % 2 : Nat) : Int) := by
  have h1 : (q : Int) / 2 ^ k = ((q / 2 ^ k : Nat) : Int) := by simp
  have hd : q / 2 ^ k ≤ q := Nat.div_le_self _ _
  rw [h1, show (1 : Int) = ((1 : Nat) : Int) from rfl, i64_and_small _ _ (by omega) (by omega), nat_mask1]
theorem bit_yes64 (q k : Nat) (hq : q < 65536) (h : q / 2 ^ k % 2 = 1) : (bits .and .i64 ((q : Int) / 2 ^ k) 1 == 1) = true := by rw [bit_int64 q k hq, h]; rfl
theorem bit_no64 (q k : Nat) (hq : q < 65536) (h : ¬ q / 2 ^ k % 2 = 1) : (bits .and .i64 ((q : Int) / 2 ^ k) 1 == 1) = false := by
  rw [bit_int64 q k hq, beq_eq_false_iff_ne]
  omega
set_option maxHeartbeats 1000000 in
theorem refmul8 (a b : UInt8) (w : World) :
    Calls Try.prog 36 #[.int .u8 (a.toNat : Int), .int .u8 (b.toNat : Int)] w fun e w' => e = .returned (.int .u8 ((gmul a b).toNat : Int)) ∧ w = w' := by
  rw [gmul_toNat]
  have ha := a.toNat_lt
  have hb := b.toNat_lt
  have Hres := Lib.hid (ref_mul ha hb)
  generalize a.toNat = a at *
  generalize b.toNat = b at *
  go_enter Try.func36, Try.ntmps36
  go_wp2_with fail
  go_loop [5, 6] (fun l i => ∃ k : Nat, k ≤ 8 ∧ i = .int .i64 k ∧ l = .int .i64 ((longN a b k : Nat) : Int)) (fun _ i => 8 - (intOf i).toNat)
  case atStart => exact ⟨0, by omega, rfl, rfl⟩
  case round =>
    obtain ⟨k, hk, rfl, rfl⟩ := hrel
    have hl := longN_lt a b k ha hk
    by_cases hk8 : k < 8
    · have Hs : Hid (longN a b (k + 1) = if b / 2 ^ k % 2 = 1 then longN a b k ^^^ (a * 2 ^ k) else longN a b k) := rfl
      generalize longN a b k = l at *
      by_cases hbit : b / 2 ^ k % 2 = 1
      · have hb1 : (bits .and .u8 ((b : Int) / 2 ^ k) 1 == 1) = true := by rw [and1_u8s b k hb, hbit]; rfl
        have Hx := Lib.hid (xor_long l a k hl ha hk)
        have Hs2 : Hid (longN a b (k + 1) = l ^^^ (a * 2 ^ k)) := by rw [Hs.out, if_pos hbit]; exact rfl
        clear hbit Hs
        go_wp2_with fail
        go_round
        case rel =>
          exact ⟨k + 1, by omega, by go_num, by rw [Hs2.out, Hx.out]⟩
        case measure => simp [intOf]; omega
      · have hb1 : (bits .and .u8 ((b : Int) / 2 ^ k) 1 == 1) = false := by rw [and1_u8s b k hb, beq_eq_false_iff_ne]; omega
        have Hs2 : Hid (longN a b (k + 1) = l) := by rw [Hs.out, if_neg hbit]; exact rfl
        clear hbit Hs
        go_wp2_with fail
        go_round
        case rel => exact ⟨k + 1, by omega, by go_num, by rw [Hs2.out]⟩
        case measure => simp [intOf]; omega
    · obtain rfl : k = 8 := by omega
      generalize longN a b 8 = l at *
      go_wp2_with fail
      go_loop [5, 7] (fun l2 i => ∃ j : Nat, j ≤ 7 ∧ i = .int .i64 (14 - (j : Int)) ∧ l2 = .int .i64 ((rdN l j : Nat) : Int)) (fun _ i => (intOf i - 7).toNat)
      case atStart => exact ⟨0, by omega, rfl, rfl⟩
      case round =>
        obtain ⟨j, hj, rfl, rfl⟩ := hrel
        have hrl := rdN_lt l j hl
        by_cases hj7 : j < 7
        · have Hs : Hid (rdN l (j + 1) = if rdN l j / 2 ^ (14 - j) % 2 = 1 then rdN l j ^^^ (285 * 2 ^ (14 - j - 8)) else rdN l j) := rfl
          generalize rdN l j = r at *
          have hmeas : ((14 : Int) - (j : Int) - 1 - 7).toNat < ((14 : Int) - (j : Int) - 7).toNat := by omega
          by_cases hbit : r / 2 ^ (14 - j) % 2 = 1
          · have hb1 := bit_yes64 r (14 - j) (by omega) hbit
            have Hx2 : Hid (bits .xor .i64 (r : Int) (wrap64 (285 * 2 ^ (14 - j - 8))) = ((r ^^^ (285 * 2 ^ (14 - j - 8)) : Nat) : Int)) := xor_long2 r (14 - j - 8) (by omega) (by omega)
            have Hs2 : Hid (rdN l (j + 1) = r ^^^ (285 * 2 ^ (14 - j - 8))) := by rw [Hs.out, if_pos hbit]; exact rfl
            clear hbit Hs
            go_wp2_with fail
            go_round
            case rel =>
              exact ⟨j + 1, by omega, by rw [show (14 : Int) - (j : Int) - 1 = 14 - ((j + 1 : Nat) : Int) from by omega], by rw [Hs2.out, Hx2.out]⟩
            case measure => exact hmeas
          · have hb1 := bit_no64 r (14 - j) (by omega) hbit
            have Hs2 : Hid (rdN l (j + 1) = r) := by rw [Hs.out, if_neg hbit]; exact rfl
            clear hbit Hs
            go_wp2_with fail
            go_round
            case rel => exact ⟨j + 1, by omega, by rw [show (14 : Int) - (j : Int) - 1 = 14 - ((j + 1 : Nat) : Int) from by omega], by rw [Hs2.out]⟩
            case measure => exact hmeas
        · obtain rfl : j = 7 := by omega
          go_wp2_with fail
          go_ret
          exact ⟨by rw [← Hres.out]; rfl, rfl⟩
set_option maxHeartbeats 400000 in
theorem refpow8 (a : UInt8) (N : Nat) (hN : N ≤ 1000000) (w : World) :
    Calls Try.prog 49 #[.int .u8 (a.toNat : Int), .int .i64 (N : Int)] w fun e w' => e = .returned (.int .u8 ((gpow a N).toNat : Int)) ∧ w = w' := by
  go_enter Try.func49, Try.ntmps49
  go_wp2_with fail
  go_loop [5, 6] (fun x i => ∃ k : Nat, k ≤ N ∧ i = .int .i64 k ∧ x = .int .u8 ((gpow a k).toNat : Int)) (fun _ i => N - (intOf i).toNat)
  case atStart => exact ⟨0, by omega, rfl, rfl⟩
  case round =>
    obtain ⟨k, hk, rfl, rfl⟩ := hrel
    by_cases hlt : k < N
    · have Hs : Hid (gpow a (k + 1) = gmul (gpow a k) a) := rfl
      generalize gpow a k = g at *
      go_wp2_with fail
      refine (refmul8 g a _).mono ?_
      rintro en w' ⟨rfl, rfl⟩
      go_wp2_with fail
      go_round
      case rel => exact ⟨k + 1, by omega, by go_num, by rw [Hs.out]⟩
      case measure => simp [intOf]; omega
    · obtain rfl : k = N := by omega
      go_wp2_with fail
      go_ret
      exact ⟨rfl, rfl⟩
end Go.Proofs.Ytddmifbgbmjdaab
