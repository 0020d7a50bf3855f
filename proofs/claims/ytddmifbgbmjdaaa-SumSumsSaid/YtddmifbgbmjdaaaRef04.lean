/- The walks of math/bits.Reverse8, Reverse32 and of the reference's checksum. -/
import Derived.Test.YtddmifbgbmjdaaaSum
import Derived.Test.YtddmifbgbmjdaaaSumRev
set_option linter.unusedVariables false
set_option linter.unusedSimpArgs false
namespace Go.Proofs.Ytddmifbgbmjdaaa
open Go.RowKit

set_option maxHeartbeats 400000 in
set_option maxRecDepth 100000 in
theorem rev8_calls (b : UInt8) (w : World) : Calls Try.prog 32 #[.int .u8 (b.toNat : Int)] w fun e w' => e = .returned (.int .u8 ((rev8 b).toNat : Int)) ∧ w = w' := by
  have hb := b.toNat_lt
  go_enter Try.func32, Try.ntmps32
  go_wp2_with fail
  go_ret
  refine ⟨ret_int (congrArg Int.ofNat (table_ok _ ?_ b _)), rfl⟩
  decide +kernel

theorem stg_int (s m x : Nat) (M P : Int) (hM : M = (m : Int)) (hP : P = ((2 ^ s : Nat) : Int)) (hx : x < 4294967296) (hm : m < 4294967296) (hms : m <<< s < 4294967296) :
    bits .or .u32 (bits .and .u32 ((x : Int) / P) M) (bits .and .u32 (x : Int) M * P % 4294967296) = ((stg s m x : Nat) : Int) := by
  subst hP hM
  have h1 : (x : Int) / ((2 ^ s : Nat) : Int) = ((x / 2 ^ s : Nat) : Int) := by simp
  have hd : x / 2 ^ s < 4294967296 := Nat.lt_of_le_of_lt (Nat.div_le_self _ _) hx
  rw [h1, u32_and_nat _ _ hd hm, u32_and_nat _ _ hx hm]
  have hb : (x &&& m) * 2 ^ s < 4294967296 := by
    rw [Nat.shiftLeft_eq] at hms
    exact Nat.lt_of_le_of_lt (Nat.mul_le_mul_right _ Nat.and_le_right) hms
  have h2 : ((x &&& m : Nat) : Int) * ((2 ^ s : Nat) : Int) % 4294967296 = (((x &&& m) * 2 ^ s : Nat) : Int) := by
    rw [← Int.natCast_mul]
    omega
  rw [h2, u32_or_nat _ _ (Nat.lt_of_le_of_lt Nat.and_le_left hd) hb, stg, Nat.shiftRight_eq_div_pow, Nat.shiftLeft_eq]
theorem swap_int (x : Nat) (hx : x < 4294967296) :
    bits .or .u32 ((x : Int) / 65536) ((x : Int) * 65536 % 4294967296) = ((stg 16 65535 x : Nat) : Int) := by
  have e1 : x / 65536 &&& 65535 = x / 65536 := by rw [show (65535 : Nat) = 2 ^ 16 - 1 from rfl, Nat.and_two_pow_sub_one_eq_mod]; omega
  have e2 : x &&& 65535 = x % 65536 := by rw [show (65535 : Nat) = 2 ^ 16 - 1 from rfl, Nat.and_two_pow_sub_one_eq_mod]
  have h1 : (x : Int) / 65536 = ((x / 65536 : Nat) : Int) := by omega
  have h2 : (x : Int) * 65536 % 4294967296 = ((x % 65536 * 65536 : Nat) : Int) := by omega
  rw [h1, h2, u32_or_nat _ _ (by omega) (by omega), stg, Nat.shiftRight_eq_div_pow, Nat.shiftLeft_eq, e2, show (2 : Nat) ^ 16 = 65536 from rfl, e1]

set_option maxHeartbeats 400000 in
theorem revb_calls (c : Nat) (hc : c < 4294967296) (w : World) : Calls Try.prog 37 #[.int .u32 (c : Int)] w fun e w' => e = .returned (.int .u32 ((stg 16 65535 (stg 8 16711935 c) : Nat) : Int)) ∧ w = w' := by
  have h1 := stg_int 8 16711935 c 16711935 256 rfl (by decide) hc (by decide) (by decide)
  have hl : stg 8 16711935 c < 4294967296 := stg_lt _ _ _ (by decide) (by decide)
  generalize stg 8 16711935 c = d at *
  have h2 := swap_int d hl
  go_enter Try.func37, Try.ntmps37
  go_wp2_with fail
  go_ret
  exact ⟨rfl, rfl⟩
set_option maxHeartbeats 400000 in
theorem rev32_calls (c : Nat) (hc : c < 4294967296) (w : World) : Calls Try.prog 33 #[.int .u32 (c : Int)] w fun e w' => e = .returned (.int .u32 ((rev32 c : Nat) : Int)) ∧ w = w' := by
  have hr : rev32 c = stg 16 65535 (stg 8 16711935 (stg 4 252645135 (stg 2 858993459 (stg 1 1431655765 c)))) := rfl
  have h1 := stg_int 1 1431655765 c 1431655765 2 rfl (by decide) hc (by decide) (by decide)
  have l1 : stg 1 1431655765 c < 4294967296 := stg_lt _ _ _ (by decide) (by decide)
  generalize stg 1 1431655765 c = d at *
  have h2 := stg_int 2 858993459 d 858993459 4 rfl (by decide) l1 (by decide) (by decide)
  have l2 : stg 2 858993459 d < 4294967296 := stg_lt _ _ _ (by decide) (by decide)
  generalize stg 2 858993459 d = f at *
  have h3 := stg_int 4 252645135 f 252645135 16 rfl (by decide) l2 (by decide) (by decide)
  have l3 : stg 4 252645135 f < 4294967296 := stg_lt _ _ _ (by decide) (by decide)
  generalize stg 4 252645135 f = g at *
  have Hr := Lib.hid hr
  clear hr
  go_enter Try.func33, Try.ntmps33
  go_wp2_with fail
  refine (revb_calls g l3 _).mono ?_
  rintro e w' ⟨rfl, rfl⟩
  rw [← Hr.out]
  go_wp2_with fail
  go_ret
  exact ⟨rfl, rfl⟩

theorem or_byte (r x : Nat) (hr : r < 4294967296) (hx : x < 256) : bits .or .u64 ((r : Int) * 256) (IntKind.u64.wrap (x : Int)) = ((r <<< 8 ^^^ x : Nat) : Int) := by
  have e1 : IntKind.u64.wrap (x : Int) = ((x : Nat) : Int) := by simp [IntKind.wrap, IntKind.bits, IntKind.signed]; omega
  rw [e1, show (r : Int) * 256 = ((r * 256 : Nat) : Int) from by omega, u64_or_nat _ _ (by omega) (by omega), nat_join 8 _ _ (by omega) (by omega), Nat.shiftLeft_eq]
  congr 1
  have h := nat_join 8 (r * 256) x (by omega) (by omega)
  have hz : (r * 256) &&& x = 0 := by
    apply Nat.eq_of_testBit_eq
    intro i
    rw [Nat.testBit_and, Nat.zero_testBit]
    by_cases hi : i < 8
    · rw [show r * 256 = 2 ^ 8 * r from by omega, Nat.testBit_two_pow_mul]
      simp; omega
    · rw [Nat.testBit_lt_two_pow (x := x) (Nat.lt_of_lt_of_le hx (show 2 ^ 8 ≤ 2 ^ i from Nat.pow_le_pow_right (by omega) (by omega)))]
      simp
  rw [show (2 : Nat) ^ 8 = 256 from rfl, ← h]
  apply Nat.eq_of_testBit_eq
  intro i
  have := congrArg (fun n => Nat.testBit n i) hz
  simp only [Nat.testBit_and, Nat.zero_testBit] at this
  rw [Nat.testBit_or, Nat.testBit_xor]
  revert this
  cases (r * 256).testBit i <;> cases x.testBit i <;> simp
theorem or_byte2 (r x : Nat) (hr : r < 4294967296) (hx : x < 256) : bits .or .u64 ((r : Int) * 256) (x : Int) = ((r <<< 8 ^^^ x : Nat) : Int) := by
  have e1 : IntKind.u64.wrap (x : Int) = ((x : Nat) : Int) := by simp [IntKind.wrap, IntKind.bits, IntKind.signed]; omega
  rw [← or_byte r x hr hx, e1]
theorem fed_lt40 (r x : Nat) (hr : r < 4294967296) (hx : x < 256) : r <<< 8 ^^^ x < 1099511627776 := Nat.xor_lt_two_pow (n := 40) (by rw [Nat.shiftLeft_eq]; omega) (by omega)

theorem bit_int (q k : Nat) (hq : q < 1099511627776) : bits .and .u64 ((q : Int) / 2 ^ k) 1 = ((q / 2 ^ k % 2 : Nat) : Int) := by
  have h1 : (q : Int) / 2 ^ k = ((q / 2 ^ k : Nat) : Int) := by simp
  have hd : q / 2 ^ k ≤ q := Nat.div_le_self _ _
  rw [h1, show (1 : Int) = ((1 : Nat) : Int) from rfl, u64_and_nat _ _ (by omega) (by omega), nat_mask1]
theorem bit_yes (q k : Nat) (hq : q < 1099511627776) (h : q / 2 ^ k % 2 = 1) : (bits .and .u64 ((q : Int) / 2 ^ k) 1 == 1) = true := by rw [bit_int q k hq, h]; rfl
theorem bit_no (q k : Nat) (hq : q < 1099511627776) (h : ¬ q / 2 ^ k % 2 = 1) : (bits .and .u64 ((q : Int) / 2 ^ k) 1 == 1) = false := by
  rw [bit_int q k hq, beq_eq_false_iff_ne]
  omega
theorem xor_int (q k : Nat) (h1 : 32 ≤ k) (h2 : k ≤ 39) (hq : q < 1099511627776) (hb : q / 2 ^ k % 2 = 1) :
    bits .xor .u64 (q : Int) (IntKind.u64.wrap (4374732215 * 2 ^ (k - 32))) = ((red k q : Nat) : Int) := by
  have hp : 4374732215 * 2 ^ (k - 32) ≤ 4374732215 * 2 ^ 7 := Nat.mul_le_mul_left _ (Nat.pow_le_pow_right (by omega) (by omega))
  have e : (4374732215 : Int) * 2 ^ (k - 32) = ((4374732215 * 2 ^ (k - 32) : Nat) : Int) := by simp
  have ew : IntKind.u64.wrap (4374732215 * 2 ^ (k - 32)) = ((4374732215 * 2 ^ (k - 32) : Nat) : Int) := by
    rw [e]
    generalize 4374732215 * 2 ^ (k - 32) = p at *
    simp [IntKind.wrap, IntKind.bits, IntKind.signed]
    omega
  rw [ew, red, if_pos hb, u64_xor_nat _ _ (by omega) (by omega)]
theorem red_no (q k : Nat) (h : ¬ q / 2 ^ k % 2 = 1) : red k q = q := by rw [red, if_neg h]

theorem info_u8r : (Try.prog.info? 5).map (fun i => (i.zero, i.size, i.bytes)) = some (some (.int .u8 0), 1, 1) := by kernel_rfl
theorem fr_belowr {w w1 w2 : World} {row : Option Nat} (hb : Below w.heap.size w w1) (hf : Fr (fun k => some k ≠ row) w1 w2) (hr : ∀ k, row = some k → w.heap.size ≤ k) : Below w.heap.size w w2 :=
  Fr.after hb hf (fun k hk e => by have := hr k e.symm; omega)

set_option maxHeartbeats 1000000 in
theorem refof_calls (v0 : Value) (l : List UInt8) (w : World) (h0 : Bytes (· < w.heap.size) w v0 l) (hl : l.length ≤ 1000000) :
    Calls Try.prog 18 #[v0] w fun e w' => e = .returned (.int .u32 ((sumN l : Nat) : Int)) ∧ Below w.heap.size w w' := by
  have H0 := Lib.hid h0
  obtain ⟨A, cp, rfl, hl', hc⟩ := h0
  clear hc
  go_enter Try.func18, Try.ntmps18
  go_wp2_with (at_builtin; refine wpList_append_bytes (R := (· < w.heap.size)) w.heap.size _ _ _ 5 rfl Try.underlying22 info_u8r (.slice (some ⟨w.heap.size, 0, none⟩) 0 0) (.slice A l.length cp) [] l rfl rfl (OwnB.empty _ _ _ (Nat.le_refl _)) ?c1 ?c2 ?c3 rfl ?_)
  case c1 => exact H0.out.below ((Below.refl _ _).alloc (Nat.le_refl _) _)
  case c2 => simp
  case c3 => simp; omega
  intro v1 w2 ho2 hf2 hat2
  have hb2 : Below w.heap.size w w2 := fr_belowr ((Below.refl _ _).alloc (Nat.le_refl _) _) hf2 (fun k hk => by simp [Value.ownBlock] at hk; omega)
  clear hf2 hat2
  go_wp2_with (at_builtin; refine wpList_append_bytes (R := fun k => w2.heap.size ≤ k) w.heap.size _ _ _ 5 rfl Try.underlying22 info_u8r v1 (.slice (some ⟨w2.heap.size, 0, none⟩) 4 4) ([] ++ l) [0, 0, 0, 0] rfl rfl ?d0 ?d1 ?d2 ?d3 rfl ?_)
  case d0 => exact ho2.keep (Fr.of_below ((Below.refl _ _).alloc (Nat.le_refl _) _) _)
  case d1 => exact bytes_lit w2 _ _ [0, 0, 0, 0] _ _ _ _ rfl rfl rfl (by simp)
  case d2 => have := hb2.size; simp; omega
  case d3 => simp; omega
  intro v2 w3 ho3 hf3 hat3
  have hb3 : Below w.heap.size w w3 := fr_belowr (hb2.alloc hb2.size _) hf3 (fun k hk => (ho2.base_le k hk).1)
  clear hf3 hat3 ho2 hb2
  obtain ⟨A3, cp3, rfl, hl3, hc3⟩ := ho3.reads
  clear ho3
  generalize hall : l ++ [0, 0, 0, 0] = all at *
  have Hall := Lib.hid hall
  clear hall
  go_wp2_with fail
  go_loop [3, 5] (fun r i => ∃ k : Nat, k ≤ all.length ∧ i = .int .i64 k ∧ r = .int .u64 ((aug 0 ((fed all).take k) : Nat) : Int)) (fun _ i => all.length - (intOf i).toNat)
  case atStart => exact ⟨0, Nat.zero_le _, rfl, rfl⟩
  case round =>
    obtain ⟨k, hk, rfl, rfl⟩ := hrel
    have hr : aug 0 ((fed all).take k) < 4294967296 := aug_lt _ _ (by omega) (fun x hx => fed_lt all x (List.mem_of_mem_take hx))
    by_cases hlt : k < all.length
    · obtain ⟨ad, rfl, hb, hcell⟩ := rd_at hc3 k hlt
      have Ht := Lib.hid (fed_take all k hlt)
      generalize hx : all[k] = b at *
      generalize haug : aug 0 ((fed all).take k) = r at *
      have Haug := Lib.hid haug
      clear haug hc3 hx
      have hb8 := (rev8 b).toNat_lt
      by_cases hk4 : k < 4
      focus
        have hX : 255 ^^^ (rev8 b).toNat < 256 := Nat.xor_lt_two_pow (n := 8) (by omega) (by omega)
        have hx8 : bits .xor .u8 IntKind.u8.max ((rev8 b).toNat : Int) = ((255 ^^^ (rev8 b).toNat : Nat) : Int) := u8_xor_nat 255 _ (by omega) (by omega)
        have Hn : Hid (aug 0 ((fed all).take (k + 1)) = redN 8 ((r <<< 8) ^^^ (255 ^^^ (rev8 b).toNat))) := by
          rw [Ht.out, aug_snoc, Haug.out, if_pos hk4, T8_byte _ _ (by omega)]; exact rfl
        have Hor := Lib.hid (or_byte r _ hr hX)
        have hr0 := fed_lt40 r _ hr hX
        go_wp2_with fail
        refine (rev8_calls b _).mono ?_
        rintro e w' ⟨rfl, rfl⟩
        go_wp2_with fail
        rw [Hor.out]
        generalize (r <<< 8) ^^^ (255 ^^^ (rev8 b).toNat) = r0 at *
      rotate_left 1
      focus
        have Hn : Hid (aug 0 ((fed all).take (k + 1)) = redN 8 ((r <<< 8) ^^^ (rev8 b).toNat)) := by
          rw [Ht.out, aug_snoc, Haug.out, if_neg hk4, T8_byte _ _ (by omega)]; exact rfl
        have Hor := Lib.hid (or_byte2 r _ hr hb8)
        have hr0 := fed_lt40 r _ hr hb8
        go_wp2_with fail
        refine (rev8_calls b _).mono ?_
        rintro e w' ⟨rfl, rfl⟩
        go_wp2_with fail
        rw [Hor.out]
        generalize (r <<< 8) ^^^ (rev8 b).toNat = r0 at *
      all_goals
        clear Hor
        go_loop [3, 7] (fun x y => ∃ j : Nat, j ≤ 8 ∧ y = .int .i64 (39 - (j : Int)) ∧ x = .int .u64 ((redN j r0 : Nat) : Int)) (fun _ y => (intOf y - 31).toNat)
        case atStart => exact ⟨0, Nat.zero_le _, rfl, rfl⟩
        case round =>
          obtain ⟨j, hj, rfl, rfl⟩ := hrel
          by_cases hj8 : j < 8
          · have hl := redN_lt j r0 hj hr0
            have Hs : Hid (redN (j + 1) r0 = red (39 - j) (redN j r0)) := rfl
            generalize redN j r0 = q at *
            have hmeas : ((39 : Int) - (j : Int) - 1 - 31).toNat < ((39 : Int) - (j : Int) - 31).toNat := by omega
            by_cases hbit : q / 2 ^ (39 - j) % 2 = 1
            · have hb1 := bit_yes q (39 - j) hl hbit
              have Hx := Lib.hid (xor_int q (39 - j) (by omega) (by omega) hl hbit)
              clear hbit
              go_wp2_with fail
              go_round
              case rel => exact ⟨j + 1, by omega, by rw [show (39 : Int) - (j : Int) - 1 = 39 - ((j + 1 : Nat) : Int) from by omega], by rw [Hs.out, Hx.out]⟩
              case measure => exact hmeas
            · have hb1 := bit_no q (39 - j) hl hbit
              have Hx := Lib.hid (red_no q (39 - j) hbit)
              clear hbit
              go_wp2_with fail
              go_round
              case rel => exact ⟨j + 1, by omega, by rw [show (39 : Int) - (j : Int) - 1 = 39 - ((j + 1 : Nat) : Int) from by omega], by rw [Hs.out, Hx.out]⟩
              case measure => exact hmeas
          · obtain rfl : j = 8 := by omega
            go_wp2_with fail
            go_round
            case rel => exact ⟨k + 1, by omega, by go_num, by rw [Hn.out]⟩
            case measure => simp [intOf]; omega
    · obtain rfl : k = all.length := by omega
      have Hres : Hid ((4294967295 ^^^ rev32 (aug 0 ((fed all).take all.length)) : Nat) = sumN l) := by
        have h1 := ref_sum l
        rw [Hall.out] at h1
        rw [List.take_of_length_le (by rw [fed_length]; omega)]
        exact h1
      generalize aug 0 ((fed all).take all.length) = r at *
      have hx := rev32_lt r
      have hxx : bits .xor .u32 IntKind.u32.max ((rev32 r : Nat) : Int) = ((4294967295 ^^^ rev32 r : Nat) : Int) := u32_xor_nat 4294967295 _ (by omega) hx
      have hconv : IntKind.u32.wrap (r : Int) = (r : Int) := by simp [IntKind.wrap, IntKind.bits, IntKind.signed]; omega
      go_wp2_with fail
      refine (rev32_calls r hr _).mono ?_
      rintro e w' ⟨rfl, rfl⟩
      go_wp2_with fail
      rw [Hres.out]
      go_ret
      exact ⟨rfl, hb3⟩

end Go.Proofs.Ytddmifbgbmjdaaa
