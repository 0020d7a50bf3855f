/- SumZero and SumFinds, walked. -/
import Derived.Test.YtddmifbgbmjdaaaSumLaw
import Derived.Test.YtddmifbgbmjdaaaSumMath
set_option linter.unusedVariables false
set_option linter.unusedSimpArgs false
namespace Go.Proofs.Ytddmifbgbmjdaaa
open Go.RowKit

theorem fr_below {w w1 w2 : World} {row : Option Nat} (hb : Below w.heap.size w w1) (hf : Fr (fun k => some k ≠ row) w1 w2) (hr : ∀ k, row = some k → w.heap.size ≤ k) : Below w.heap.size w w2 :=
  Fr.after hb hf (fun k hk e => by have := hr k e.symm; omega)

set_option maxHeartbeats 1000000 in
theorem zero_calls (v0 v1 v2 : Value) (a b c : List UInt8) (w : World) (h0 : Bytes (· < w.heap.size) w v0 a) (h1 : Bytes (· < w.heap.size) w v1 b) (h2 : Bytes (· < w.heap.size) w v2 c) :
    Calls Try.prog 5 #[v0, v1, v2] w fun e w' => e = .returned (.bool true) ∧ Below w.heap.size w w' := by
  by_cases c0 : a.length ≤ 500 ∧ b.length ≤ 500 ∧ c.length ≤ 500
  · obtain ⟨c1, c2, c3⟩ := c0
    have H0 := Lib.hid h0
    have H1 := Lib.hid h1
    have H2 := Lib.hid h2
    have hlaw : (((sumN (a ++ c) : Nat) : Int) == ((sumN (b ++ c) : Nat) : Int)) = (((sumN a : Nat) : Int) == ((sumN b : Nat) : Int)) := by
      rw [Bool.eq_iff_iff, beq_iff_eq, beq_iff_eq, Int.natCast_inj, Int.natCast_inj]
      exact sum_zero a b c
    have HL := Lib.hid hlaw
    clear hlaw
    obtain ⟨A, cp, rfl, hl, hc⟩ := h0
    obtain ⟨A1, cp1, rfl, hl1, hc1⟩ := h1
    obtain ⟨A2, cp2, rfl, hl2, hc2⟩ := h2
    clear hc hc1 hc2
    go_enter Try.func5, Try.ntmps5
    go_wp2_with (at_builtin; refine wpList_append_bytes (R := (· < w.heap.size)) w.heap.size _ _ _ 5 rfl Try.underlying22 info_u8 (.slice (some ⟨w.heap.size, 0, none⟩) 0 0) (.slice A a.length cp) [] a rfl rfl (OwnB.empty _ _ _ (Nat.le_refl _)) ?c1 ?c2 ?c3 rfl ?_)
    case c1 => exact H0.out.below ((Below.refl _ _).alloc (Nat.le_refl _) _)
    case c2 => simp
    case c3 => simp; omega
    intro v1 w2 ho2 hf2 hat2
    have hb2 : Below w.heap.size w w2 := fr_below ((Below.refl _ _).alloc (Nat.le_refl _) _) hf2 (fun k hk => by simp [Value.ownBlock] at hk; omega)
    clear hf2
    go_wp2_with (at_builtin; refine wpList_append_bytes (R := (· < w.heap.size)) w.heap.size _ _ _ 5 rfl Try.underlying22 info_u8 v1 (.slice A2 c.length cp2) ([] ++ a) c rfl rfl ho2 (H2.out.below hb2) ?d1 ?d2 rfl ?_)
    case d1 => exact hb2.size
    case d2 => simp; omega
    intro v2 w3 ho3 hf3 hat3
    have hb3 : Below w.heap.size w w3 := fr_below hb2 hf3 (fun k hk => (ho2.base_le k hk).1)
    have hr3 := ho3.reads
    clear hf3
    go_wp2_with fail
    refine (of_calls _ (a ++ c) _ _ hr3).mono ?_
    rintro e w4 ⟨rfl, rfl⟩
    clear ho2 ho3 hat2 hat3 hb2 hr3
    go_wp2_with (at_builtin; refine wpList_append_bytes (R := (· < w.heap.size)) w3.heap.size _ _ _ 5 rfl Try.underlying22 info_u8 (.slice (some ⟨w3.heap.size, 0, none⟩) 0 0) (.slice A1 b.length cp1) [] b rfl rfl (OwnB.empty _ _ _ (Nat.le_refl _)) ?e1 ?e2 ?e3 rfl ?_)
    case e1 => exact (H1.out.below hb3).below ((Below.refl _ _).alloc (Nat.le_refl _) _)
    case e2 => simp
    case e3 => simp; omega
    intro v3 w4 ho4 hf4 hat4
    have hb4 : Below w.heap.size w w4 := fr_below (hb3.alloc hb3.size _) hf4 (fun k hk => by simp [Value.ownBlock] at hk; have := hb3.size; omega)
    have hs4 : w3.heap.size + 1 ≤ w4.heap.size := by simpa using hf4.size
    clear hf4
    go_wp2_with (at_builtin; refine wpList_append_bytes (R := (· < w.heap.size)) w3.heap.size _ _ _ 5 rfl Try.underlying22 info_u8 v3 (.slice A2 c.length cp2) ([] ++ b) c rfl rfl ho4 (H2.out.below hb4) ?g1 ?g2 rfl ?_)
    case g1 => omega
    case g2 => simp; omega
    intro v4 w5 ho5 hf5 hat5
    have hb5 : Below w.heap.size w w5 := fr_below hb4 hf5 (fun k hk => by have := (ho4.base_le k hk).1; have := hb3.size; omega)
    have hr5 := ho5.reads
    clear hf5 ho4 ho5 hat4 hat5 hs4 hb3 hb4
    go_wp2_with fail
    refine (of_calls _ (b ++ c) _ _ hr5).mono ?_
    rintro e w4 ⟨rfl, rfl⟩
    clear hr5
    go_wp2_with fail
    refine (awake04_calls _).mono ?_
    rintro e w6 ⟨rfl, hb6⟩
    have hb7 : Below w.heap.size w w6 := hb5.trans (hb6.mono hb5.size)
    clear hb5 hb6
    go_wp2_with fail
    refine (of_calls _ a _ _ (H0.out.below hb7)).mono ?_
    rintro e w4 ⟨rfl, rfl⟩
    go_wp2_with fail
    refine (of_calls _ b _ _ (H1.out.below hb7)).mono ?_
    rintro e w4 ⟨rfl, rfl⟩
    go_wp2_with fail
    go_ret
    exact ⟨by simp [HL.out], hb7⟩
  · obtain ⟨A, cp, rfl, hl, hc⟩ := h0
    obtain ⟨A1, cp1, rfl, hl1, hc1⟩ := h1
    obtain ⟨A2, cp2, rfl, hl2, hc2⟩ := h2
    clear hc hc1 hc2
    have hc : 500 < a.length ∨ 500 < b.length ∨ 500 < c.length := by omega
    clear c0
    by_cases c1 : a.length ≤ 500 <;> by_cases c2 : b.length ≤ 500 <;> by_cases c3 : c.length ≤ 500
    all_goals first
      | exact absurd hc (by omega)
      | (clear hc
         go_enter Try.func5, Try.ntmps5
         go_wp2_with fail
         refine (awake04_calls _).mono ?_
         rintro e w1 ⟨rfl, hb1⟩
         go_wp2_with fail
         go_ret
         exact ⟨rfl, hb1⟩)


theorem shift_byte (x : UInt8) (t k : Nat) : bits .xor .u8 (x.toNat : Int) ((t : Int) / 2 ^ (8 * k) % 256) = ((x ^^^ UInt8.ofNat (t / 256 ^ k)).toNat : Int) := by
  have e : (t : Int) / 2 ^ (8 * k) % 256 = ((t / 256 ^ k % 256 : Nat) : Int) := by
    have h2 : (2 : Int) ^ (8 * k) = ((256 ^ k : Nat) : Int) := by rw [Int.pow_mul]; simp
    rw [h2]
    simp
  have hx := x.toNat_lt
  rw [e, u8_xor_nat x.toNat _ (by omega) (by omega), UInt8.toNat_xor, UInt8.toNat_ofNat']

set_option maxHeartbeats 1000000 in
theorem finds_calls (v0 : Value) (l : List UInt8) (at_ turn : Nat) (w : World) (h0 : Bytes (· < w.heap.size) w v0 l) (ha : at_ < 65536) (ht : turn < 4294967296) :
    Calls Try.prog 4 #[v0, .int .u16 (at_ : Int), .int .u32 (turn : Int)] w fun e w' => e = .returned (.bool true) ∧ Below w.heap.size w w' := by
  by_cases c0 : 4 ≤ l.length ∧ l.length ≤ 2000 ∧ turn ≠ 0
  · obtain ⟨c1, c2, c3⟩ := c0
    have H0 := Lib.hid h0
    obtain ⟨A, cp, rfl, hl, hc⟩ := h0
    clear hc
    have c3' : ((turn : Int) == 0) = false := by rw [beq_eq_false_iff_ne]; omega
    go_enter Try.func4, Try.ntmps4
    go_wp2_with (at_builtin; refine wpList_append_bytes (R := (· < w.heap.size)) w.heap.size _ _ _ 5 rfl Try.underlying22 info_u8 (.slice (some ⟨w.heap.size, 0, none⟩) 0 0) (.slice A l.length cp) [] l rfl rfl (OwnB.empty _ _ _ (Nat.le_refl _)) ?c1 ?c2 ?c3 rfl ?_)
    case c1 => exact H0.out.below ((Below.refl _ _).alloc (Nat.le_refl _) _)
    case c2 => simp
    case c3 => simp; omega
    intro v1 w2 ho2 hf2 hat2
    have hb2 : Below w.heap.size w w2 := fr_below ((Below.refl _ _).alloc (Nat.le_refl _) _) hf2 (fun k hk => by simp [Value.ownBlock] at hk; omega)
    clear hf2 hat2
    obtain ⟨g, cap, rfl, hg1, hg2, hcap⟩ := ho2.form (by omega)
    go_wp2_with fail
    obtain ⟨i, hi, hi4⟩ : ∃ i : Nat, (at_ : Int) % ((l.length : Int) - 3) = (i : Int) ∧ i + 4 ≤ l.length := by
      refine ⟨((at_ : Int) % ((l.length : Int) - 3)).toNat, ?_, ?_⟩
      · have := Int.emod_nonneg (at_ : Int) (b := (l.length : Int) - 3) (by omega)
        omega
      · have := Int.emod_nonneg (at_ : Int) (b := (l.length : Int) - 3) (by omega)
        have := Int.emod_lt_of_pos (at_ : Int) (b := (l.length : Int) - 3) (by omega)
        omega
    rw [hi]
    clear hi ha
    go_loopw [9] (fun x wr => ∃ k : Nat, k ≤ 4 ∧ x = .int .i64 k ∧ Hid (OwnB wr w.heap.size 5 (.slice (some ⟨g, 0, none⟩) l.length cap) (turned turn i l k)) ∧ Hid (Below w.heap.size w wr)) (fun x _ => 4 - (intOf x).toNat)
    case atStart => exact ⟨0, Nat.zero_le _, rfl, Lib.hid ho2, Lib.hid hb2⟩
    case round =>
      clear ho2 hb2 c3'
      obtain ⟨k, hk, rfl, ho, hb⟩ := hrel
      have hlen := turned_length turn i l k
      by_cases hk4 : k < 4
      · obtain ⟨x, hx, hcell, hfro⟩ := ho.out.cellD (i + k) (by omega)
        have hst := Lib.hid (ho.out.stored (i + k) (x ^^^ UInt8.ofNat (turn / 256 ^ k)))
        have Hx := Lib.hid hx
        clear hx hlen
        have Hv := Lib.hid (shift_byte x turn k)
        go_wp2_with fail
        go_roundw
        case rel =>
          refine ⟨k + 1, by omega, by go_num, ?_, Lib.hid (hb.out.setCell hg1 _)⟩
          rw [Hv.out]
          have := hst.out
          unfold turned
          rw [Hx.out]
          exact Lib.hid this
        case measure => simp [intOf]; omega
      · obtain rfl : k = 4 := by omega
        have hr := Lib.hid ho.out.reads
        have hne : (((sumN (turned turn i l 4) : Nat) : Int) != ((sumN l : Nat) : Int)) = true := by
          rw [bne_iff_ne]
          have := sum_finds l i turn (by omega) ht c3
          omega
        have Hne := Lib.hid hne
        clear hne
        go_wp2_with fail
        refine (awake04_calls _).mono ?_
        rintro e w6 ⟨rfl, hb6⟩
        have hb7 : Below w.heap.size w w6 := hb.out.trans (hb6.mono hb.out.size)
        go_wp2_with fail
        refine (of_calls _ (turned turn i l 4) _ _ (hr.out.below hb6)).mono ?_
        rintro e w4 ⟨rfl, rfl⟩
        go_wp2_with fail
        refine (of_calls _ l _ _ (H0.out.below hb7)).mono ?_
        rintro e w4 ⟨rfl, rfl⟩
        go_wp2_with fail
        go_ret
        exact ⟨by simp [Hne.out], hb7⟩
  · obtain ⟨A, cp, rfl, hl, hc⟩ := h0
    clear hc
    by_cases c1 : 4 ≤ l.length <;> by_cases c2 : l.length ≤ 2000 <;> by_cases c3 : turn = 0
    all_goals first
      | exact absurd c0 (by omega)
      | (clear c0
         first
          | (have c3' : ((turn : Int) == 0) = false := by (rw [beq_eq_false_iff_ne]; omega)
             clear c3
             go_enter Try.func4, Try.ntmps4
             go_wp2_with fail
             refine (awake04_calls _).mono ?_
             rintro e w1 ⟨rfl, hb1⟩
             go_wp2_with fail
             go_ret
             exact ⟨rfl, hb1⟩)
          | (subst c3
             go_enter Try.func4, Try.ntmps4
             go_wp2_with fail
             refine (awake04_calls _).mono ?_
             rintro e w1 ⟨rfl, hb1⟩
             go_wp2_with fail
             go_ret
             exact ⟨rfl, hb1⟩))

end Go.Proofs.Ytddmifbgbmjdaaa
