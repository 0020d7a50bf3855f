/- The walks of sum.step, sum.Of, sum.Join. -/
import Derived.Test.YtddmifbgbmjdaaaProg
import Derived.Test.YtddmifbgbmjdaaaMem
set_option linter.unusedVariables false
set_option linter.unusedSimpArgs false
namespace Go.Proofs.Ytddmifbgbmjdaaa
open Go.RowKit

set_option maxHeartbeats 400000 in
theorem step_calls (c : Nat) (hc : c < 4294967296) (w : World) :
    Calls Try.prog 31 #[.int .u32 (c : Int)] w fun e w' => e = .returned (.int .u32 ((stepN c : Nat) : Int)) ∧ w = w' := by
  have ha : bits .and .u32 (c : Int) 1 = ((c % 2 : Nat) : Int) := by rw [show (1 : Int) = ((1 : Nat) : Int) from rfl, u32_and_nat c 1 hc (by omega), nat_mask1]
  have hx : bits .xor .u32 ((c : Int) / 2) 3988292384 = ((c / 2 ^^^ 3988292384 : Nat) : Int) := by
    rw [show (3988292384 : Int) = ((3988292384 : Nat) : Int) from rfl, show (c : Int) / 2 = ((c / 2 : Nat) : Int) from by omega, u32_xor_nat (c / 2) 3988292384 (by omega) (by omega)]
  by_cases h : c % 2 = 1
  · have hs : stepN c = (c / 2) ^^^ 3988292384 := by simp [stepN, h]
    have h1 : (bits .and .u32 (c : Int) 1 == 1) = true := by rw [ha]; simp [h]
    have Hx := Lib.hid hx; have Hs := Lib.hid hs
    clear hx hs ha h
    go_enter Try.func31, Try.ntmps31
    go_wp2
    go_ret
    exact ⟨by rw [Hs.out, ← Hx.out]; rfl, rfl⟩
  · have hs : stepN c = c / 2 := by simp [stepN, h]
    have h1 : (bits .and .u32 (c : Int) 1 == 1) = false := by rw [ha, beq_eq_false_iff_ne]; omega
    have Hs := Lib.hid hs
    clear hx hs ha h
    go_enter Try.func31, Try.ntmps31
    go_wp2
    go_ret
    exact ⟨by rw [Hs.out]; rfl, rfl⟩

set_option maxHeartbeats 400000 in
theorem of_calls (v : Value) (l : List UInt8) (P : Nat → Prop) (w : World) (hv : Bytes P w v l) :
    Calls Try.prog 17 #[v] w fun e w' => e = .returned (.int .u32 ((sumN l : Nat) : Int)) ∧ w = w' := by
  obtain ⟨A, cp, rfl, hl, hc⟩ := hv
  go_enter Try.func17, Try.ntmps17
  go_wp2_with fail
  go_loop [3, 8] (fun s i => ∃ k : Nat, k ≤ l.length ∧ i = .int .i64 k ∧ s = .int .u32 ((runN 4294967295 (l.take k) : Nat) : Int)) (fun _ i => l.length - (intOf i).toNat)
  case atStart => exact ⟨0, Nat.zero_le _, rfl, rfl⟩
  case round =>
    obtain ⟨k, hk, rfl, rfl⟩ := hrel
    by_cases hlt : k < l.length
    · obtain ⟨ad, rfl, hb, hcell⟩ := rd_at hc k hlt
      have hr : runN 4294967295 (l.take k) < 4294967296 := runN_lt _ (by omega)
      have hx := u32_xor_b (runN 4294967295 (l.take k)) l[k] hr
      have ht : runN 4294967295 (l.take (k + 1)) = byteN (runN 4294967295 (l.take k)) l[k] := by rw [take_snoc l k hlt, runN_snoc]
      have hs0 := byte_start (runN 4294967295 (l.take k)) l[k] hr
      have Ht := Lib.hid ht
      clear ht hc
      generalize hb : l[k] = b at *
      generalize hcc : runN 4294967295 (l.take k) = cc at *
      go_wp2_with fail
      go_loop [3, 16] (fun s i => ∃ m : Nat, m ≤ 8 ∧ i = .int .i64 m ∧ s = .int .u32 ((iter stepN m (cc ^^^ b.toNat) : Nat) : Int)) (fun _ i => 8 - (intOf i).toNat)
      case atStart => exact ⟨0, Nat.zero_le _, rfl, rfl⟩
      case round =>
        obtain ⟨m, hm, rfl, rfl⟩ := hrel
        by_cases hm8 : m < 8
        · have hs1 := iter_stepN_lt m hs0
          have Hs := Lib.hid (iter_succ' stepN m (cc ^^^ b.toNat))
          go_wp2_with (go_at_call 31; refine (step_calls _ hs1 _).mono ?_; rintro e w' ⟨rfl, rfl⟩)
          go_round
          case rel => exact ⟨m + 1, by omega, by go_num, by rw [Hs.out]⟩
          case measure => simp [intOf]; omega
        · obtain rfl : m = 8 := by omega
          go_wp2_with fail
          go_round
          case rel => exact ⟨k + 1, by omega, by go_num, by rw [Ht.out]; rfl⟩
          case measure => simp [intOf]; omega
    · obtain rfl : k = l.length := by omega
      have hx : bits .xor .u32 IntKind.u32.max ((runN 4294967295 l : Nat) : Int) = ((sumN l : Nat) : Int) := by
        rw [show IntKind.u32.max = ((4294967295 : Nat) : Int) from rfl, u32_xor_nat _ _ (by omega) (runN_lt _ (by omega))]; rfl
      go_wp2_with fail
      go_ret
      exact ⟨rfl, rfl⟩

theorem iter_lt' (a n : Nat) (h : a < 4294967296) : iter stepN n a < 4294967296 := iter_stepN_lt n h

set_option maxHeartbeats 400000 in
theorem join_calls (a b : Nat) (n : Nat) (ha : a < 4294967296) (hb : b < 4294967296) (hn : n ≤ 1000000) (w : World) :
    Calls Try.prog 16 #[.int .u32 (a : Int), .int .u32 (b : Int), .int .i64 (n : Int)] w fun e w' => e = .returned (.int .u32 ((iter stepN (n * 8) a ^^^ b : Nat) : Int)) ∧ w = w' := by
  go_enter Try.func16, Try.ntmps16
  go_wp2_with fail
  go_loop [0, 10] (fun s i => ∃ k : Nat, k ≤ n * 8 ∧ i = .int .i64 k ∧ s = .int .u32 ((iter stepN k a : Nat) : Int)) (fun _ i => n * 8 - (intOf i).toNat)
  case atStart => exact ⟨0, Nat.zero_le _, rfl, rfl⟩
  case round =>
    obtain ⟨k, hk, rfl, rfl⟩ := hrel
    have hs1 := iter_stepN_lt k ha
    by_cases hlt : k < n * 8
    · have Hs := Lib.hid (iter_succ' stepN k a)
      have hlt' : (k : Int) < (n : Int) * 8 := by omega
      go_wp2_with (go_at_call 31; refine (step_calls _ hs1 _).mono ?_; rintro e w' ⟨rfl, rfl⟩)
      go_round
      case rel => exact ⟨k + 1, by omega, by go_num, by rw [Hs.out]⟩
      case measure => simp [intOf]; omega
    · obtain rfl : k = n * 8 := by omega
      have hx : bits .xor .u32 ((iter stepN (n * 8) a : Nat) : Int) (b : Int) = ((iter stepN (n * 8) a ^^^ b : Nat) : Int) := u32_xor_nat _ _ hs1 hb
      have Hx := Lib.hid hx
      clear hx
      have hlt' : ¬ (n : Int) * 8 < (n : Int) * 8 := by omega
      go_wp2_with fail
      go_ret
      exact ⟨by rw [← Hx.out]; rfl, rfl⟩

end Go.Proofs.Ytddmifbgbmjdaaa
