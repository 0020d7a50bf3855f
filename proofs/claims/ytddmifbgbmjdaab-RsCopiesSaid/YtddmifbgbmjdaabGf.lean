/- The walks of gf's small functions. -/
import Derived.Test.YtddmifbgbmjdaabProg
import Derived.Test.YtddmifbgbmjdaabMem
import Derived.Test.YtddmifbgbmjdaabGfMath
set_option linter.unusedVariables false
set_option linter.unusedSimpArgs false
namespace Go.Proofs.Ytddmifbgbmjdaab
open Go.RowKit

theorem wrap_u8 (x : Nat) (h : x < 256) : IntKind.u8.wrap (x : Int) = (x : Int) := by simp [IntKind.wrap, IntKind.bits, IntKind.signed]; omega
set_option maxHeartbeats 400000 in
theorem twice_calls (a : Nat) (ha : a < 256) (w : World) :
    Calls Try.prog 56 #[.int .u8 (a : Int)] w fun e w' => e = .returned (.int .u8 ((xtN a : Nat) : Int)) ∧ w = w' := by
  by_cases h : a * 2 > 255
  · have hx : bits .xor .i64 ((a : Int) * 2) 285 = ((a * 2 ^^^ 285 : Nat) : Int) := by
      rw [show (a : Int) * 2 = ((a * 2 : Nat) : Int) from by omega, show (285 : Int) = ((285 : Nat) : Int) from rfl]
      exact i64_xor_small _ _ (by omega) (by omega)
    have hl := xtN_lt ha
    have hs : xtN a = a * 2 ^^^ 285 := by unfold xtN; rw [if_pos h]
    rw [hs] at hl
    have Hs := Lib.hid hs
    clear hs
    generalize a * 2 ^^^ 285 = z at *
    have hw := Lib.hid (wrap_u8 z hl)
    go_enter Try.func56, Try.ntmps56
    go_wp2_with fail
    go_ret
    exact ⟨by rw [Hs.out]; exact ret_int (by first | rfl | exact hw.out), rfl⟩
  · have hs : xtN a = a * 2 := by unfold xtN; rw [if_neg h]
    have Hs := Lib.hid hs
    clear hs
    go_enter Try.func56, Try.ntmps56
    go_wp2_with fail
    go_ret
    exact ⟨by rw [Hs.out]; exact ret_int (by first | rfl | (show _ = ((a * 2 : Nat) : Int); omega)), rfl⟩

theorem and1_u8 (f : Nat) (hf : f < 256) : bits .and .u8 (f : Int) 1 = ((f % 2 : Nat) : Int) := by
  rw [show (1 : Int) = ((1 : Nat) : Int) from rfl, u8_and_nat f 1 hf (by omega), nat_mask1]
theorem xor_u8 (a b : Nat) (ha : a < 256) (hb : b < 256) : bits .xor .u8 (a : Int) (b : Int) = ((a ^^^ b : Nat) : Int) := u8_xor_nat a b ha hb
/-- One round of the product. -/
def outN (o e f : Nat) : Nat := if f % 2 = 1 then o ^^^ e else o
theorem outN_lt {o e f : Nat} (ho : o < 256) (he : e < 256) : outN o e f < 256 := by
  unfold outN
  split
  · exact Nat.xor_lt_two_pow (n := 8) ho he
  · exact ho
theorem tm_end {n o e f : Nat} (hf : f < 2 ^ n) (h : f / 2 = 0) : tmN n o e f = outN o e f := by
  cases n with
  | zero =>
    have : f = 0 := by omega
    subst this
    simp [tmN, outN]
  | succ n => rw [tmN, h, tmN_zero]; rfl
theorem tm_on {n o e f : Nat} (hf : f < 2 ^ n) (h : ¬ f / 2 = 0) : ∃ m, n = m + 1 ∧ tmN n o e f = tmN m (outN o e f) (xtN e) (f / 2) ∧ f / 2 < 2 ^ m := by
  cases n with
  | zero => exact absurd (show f / 2 = 0 by omega) h
  | succ m => exact ⟨m, rfl, rfl, by rw [Nat.pow_succ] at hf; omega⟩

set_option maxHeartbeats 1000000 in
set_option maxRecDepth 1000000 in
theorem times_calls (a b : Nat) (ha : a < 256) (hb : b < 256) (w : World) :
    Calls Try.prog 63 #[.int .u8 (a : Int), .int .u8 (b : Int)] w fun e w' => e = .returned (.int .u8 ((mulN a b : Nat) : Int)) ∧ w = w' := by
  go_enter Try.func63, Try.ntmps63
  go_wp2_with fail
  refine wp_scope_jumps 0 (fun a' w' => w' = w ∧ ∃ (n o e f : Nat) (u2 u3 u6 u7 u8 u9 u10 u11 u12 u13 u14 u15 u16 u17 : Value), a' = { tmps := #[.int .u8 (e : Int), .int .u8 (f : Int), u2, u3, .int .u8 0, .int .u8 (o : Int), u6, u7, u8, u9, u10, u11, u12, u13, u14, u15, u16, u17, undef], defers := [] } ∧
    Hid (tmN n o e f = mulN a b) ∧ o < 256 ∧ e < 256 ∧ f < 256 ∧ Hid (f < 2 ^ n)) (fun a' _ => (intOf (a'.tmps.getD 1 undef)).toNat) rfl ?_ ?_
  · have Hm : Hid (tmN 8 0 a b = mulN a b) := rfl
    have Hf : Hid (b < 2 ^ 8) := hb
    have hne := Lib.hid (outN_lt (o := 0) (e := a) (f := b) (by omega) ha)
    have hxl := xtN_lt ha
    by_cases hbit : b % 2 = 1 <;> by_cases hz : b / 2 = 0
    · have hb1 : (bits .and .u8 (b : Int) 1 == 1) = true := by rw [and1_u8 b hb, hbit]; rfl
      have hx : bits .xor .u8 0 (a : Int) = (a : Int) := by have := xor_u8 0 a (by omega) ha; simpa using this
      have hz1 : ((b : Int) / 2 != 0) = false := by rw [show (b : Int) / 2 = ((b / 2 : Nat) : Int) from by omega, hz]; rfl
      have Hend : Hid (mulN a b = a) := by rw [← Hm.out, tm_end Hf.out hz, outN, if_pos hbit, Nat.zero_xor]; exact rfl
      clear hbit hz
      go_wp2_with fail
      go_step3
      go_wp2_with fail
      refine (twice_calls a ha _).mono ?_
      rintro en w' ⟨rfl, rfl⟩
      go_wp2_with fail
      simp only [Exit.jump]
      go_ret
      exact ⟨by rw [Hend.out]; rfl, rfl⟩
    · have hb1 : (bits .and .u8 (b : Int) 1 == 1) = true := by rw [and1_u8 b hb, hbit]; rfl
      have hx : bits .xor .u8 0 (a : Int) = (a : Int) := by have := xor_u8 0 a (by omega) ha; simpa using this
      have hz1 : ((b : Int) / 2 != 0) = true := by rw [bne_iff_ne]; omega
      obtain ⟨m, hm8, hm, hfm⟩ := tm_on (n := 8) (o := 0) (e := a) Hf.out hz
      have Hm2 : Hid (tmN m a (xtN a) (b / 2) = mulN a b) := by rw [← Hm.out, hm, outN, if_pos hbit, Nat.zero_xor]; exact rfl
      have Hf2 := Lib.hid hfm
      have hol := ha
      have Hcast : Hid ((b : Int) / 2 = ((b / 2 : Nat) : Int)) := by unfold Hid; omega
      have Hfz := Lib.hid hz
      clear hbit hz hm hfm hne hm8
      go_wp2_with fail
      go_step3
      go_wp2_with fail
      refine (twice_calls a ha _).mono ?_
      rintro en w' ⟨rfl, rfl⟩
      go_wp2_with fail
      go_step3
      rw [Hcast.out]
      exact ⟨rfl, rfl, m, _, _, _, _, _, _, _, _, _, _, _, _, _, _, _, _, _, rfl, Hm2, hol, hxl, by omega, Hf2⟩
    · have hb1 : (bits .and .u8 (b : Int) 1 == 1) = false := by rw [and1_u8 b hb, beq_eq_false_iff_ne]; omega
      have hz1 : ((b : Int) / 2 != 0) = false := by rw [show (b : Int) / 2 = ((b / 2 : Nat) : Int) from by omega, hz]; rfl
      have Hend : Hid (mulN a b = 0) := by rw [← Hm.out, tm_end Hf.out hz, outN, if_neg hbit]; exact rfl
      clear hbit hz
      go_wp2_with fail
      go_step3
      go_wp2_with fail
      refine (twice_calls a ha _).mono ?_
      rintro en w' ⟨rfl, rfl⟩
      go_wp2_with fail
      simp only [Exit.jump]
      go_ret
      exact ⟨by rw [Hend.out]; rfl, rfl⟩
    · have hb1 : (bits .and .u8 (b : Int) 1 == 1) = false := by rw [and1_u8 b hb, beq_eq_false_iff_ne]; omega
      have hz1 : ((b : Int) / 2 != 0) = true := by rw [bne_iff_ne]; omega
      obtain ⟨m, hm8, hm, hfm⟩ := tm_on (n := 8) (o := 0) (e := a) Hf.out hz
      have Hm2 : Hid (tmN m 0 (xtN a) (b / 2) = mulN a b) := by rw [← Hm.out, hm, outN, if_neg hbit]; exact rfl
      have Hf2 := Lib.hid hfm
      have hol : 0 < 256 := by omega
      have Hcast : Hid ((b : Int) / 2 = ((b / 2 : Nat) : Int)) := by unfold Hid; omega
      have Hfz := Lib.hid hz
      clear hbit hz hm hfm hne hm8
      go_wp2_with fail
      go_step3
      go_wp2_with fail
      refine (twice_calls a ha _).mono ?_
      rintro en w' ⟨rfl, rfl⟩
      go_wp2_with fail
      go_step3
      rw [Hcast.out]
      exact ⟨rfl, rfl, m, _, _, _, _, _, _, _, _, _, _, _, _, _, _, _, _, _, rfl, Hm2, hol, hxl, by omega, Hf2⟩
  · rintro a' w' ⟨rfl, n, o, e, f, u2, u3, u6, u7, u8, u9, u10, u11, u12, u13, u14, u15, u16, u17, rfl, Hm, ho, he, hf, Hf⟩
    have hne := Lib.hid (outN_lt (f := f) ho he)
    have hxl := xtN_lt he
    by_cases hbit : f % 2 = 1 <;> by_cases hz : f / 2 = 0
    · have hb1 : (bits .and .u8 (f : Int) 1 == 1) = true := by rw [and1_u8 f hf, hbit]; rfl
      have hx := xor_u8 o e ho he
      have hz1 : ((f : Int) / 2 != 0) = false := by rw [show (f : Int) / 2 = ((f / 2 : Nat) : Int) from by omega, hz]; rfl
      have Hend : Hid (mulN a b = o ^^^ e) := by rw [← Hm.out, tm_end Hf.out hz, outN, if_pos hbit]; exact rfl
      clear hbit hz
      go_wp2_with fail
      refine (twice_calls e he _).mono ?_
      rintro en w' ⟨rfl, rfl⟩
      go_wp2_with fail
      simp only [Exit.jump]
      go_ret
      exact ⟨by rw [Hend.out]; rfl, rfl⟩
    · have hb1 : (bits .and .u8 (f : Int) 1 == 1) = true := by rw [and1_u8 f hf, hbit]; rfl
      have hx := xor_u8 o e ho he
      have hz1 : ((f : Int) / 2 != 0) = true := by rw [bne_iff_ne]; omega
      obtain ⟨m, rfl, hm, hfm⟩ := tm_on (o := o) (e := e) Hf.out hz
      have Hm2 : Hid (tmN m (o ^^^ e) (xtN e) (f / 2) = mulN a b) := by rw [← Hm.out, hm, outN, if_pos hbit]; exact rfl
      have Hf2 := Lib.hid hfm
      have hol : o ^^^ e < 256 := by have := hne.out; unfold outN at this; rwa [if_pos hbit] at this
      have Hcast : Hid ((f : Int) / 2 = ((f / 2 : Nat) : Int)) := by unfold Hid; omega
      have Hfz := Lib.hid hz
      clear hbit hz hm hfm hne
      go_wp2_with fail
      refine (twice_calls e he _).mono ?_
      rintro en w' ⟨rfl, rfl⟩
      go_wp2_with fail
      go_step3
      rw [Hcast.out]
      exact ⟨rfl, ⟨rfl, m, _, _, _, _, _, _, _, _, _, _, _, _, _, _, _, _, _, rfl, Hm2, hol, hxl, by omega, Hf2⟩, by have := Hfz.out; simp [intOf]; omega⟩
    · have hb1 : (bits .and .u8 (f : Int) 1 == 1) = false := by rw [and1_u8 f hf, beq_eq_false_iff_ne]; omega
      have hz1 : ((f : Int) / 2 != 0) = false := by rw [show (f : Int) / 2 = ((f / 2 : Nat) : Int) from by omega, hz]; rfl
      have Hend : Hid (mulN a b = o) := by rw [← Hm.out, tm_end Hf.out hz, outN, if_neg hbit]; exact rfl
      clear hbit hz
      go_wp2_with fail
      refine (twice_calls e he _).mono ?_
      rintro en w' ⟨rfl, rfl⟩
      go_wp2_with fail
      simp only [Exit.jump]
      go_ret
      exact ⟨by rw [Hend.out]; rfl, rfl⟩
    · have hb1 : (bits .and .u8 (f : Int) 1 == 1) = false := by rw [and1_u8 f hf, beq_eq_false_iff_ne]; omega
      have hz1 : ((f : Int) / 2 != 0) = true := by rw [bne_iff_ne]; omega
      obtain ⟨m, rfl, hm, hfm⟩ := tm_on (o := o) (e := e) Hf.out hz
      have Hm2 : Hid (tmN m o (xtN e) (f / 2) = mulN a b) := by rw [← Hm.out, hm, outN, if_neg hbit]; exact rfl
      have Hf2 := Lib.hid hfm
      have hol : o < 256 := ho
      have Hcast : Hid ((f : Int) / 2 = ((f / 2 : Nat) : Int)) := by unfold Hid; omega
      have Hfz := Lib.hid hz
      clear hbit hz hm hfm hne
      go_wp2_with fail
      refine (twice_calls e he _).mono ?_
      rintro en w' ⟨rfl, rfl⟩
      go_wp2_with fail
      go_step3
      rw [Hcast.out]
      exact ⟨rfl, ⟨rfl, m, _, _, _, _, _, _, _, _, _, _, _, _, _, _, _, _, _, rfl, Hm2, hol, hxl, by omega, Hf2⟩, by have := Hfz.out; simp [intOf]; omega⟩
end Go.Proofs.Ytddmifbgbmjdaab
