/- SumSums, walked. -/
import Derived.Test.YtddmifbgbmjdaaaSumLaw
import Derived.Test.YtddmifbgbmjdaaaRef04
set_option linter.unusedVariables false
set_option linter.unusedSimpArgs false
namespace Go.Proofs.Ytddmifbgbmjdaaa
open Go.RowKit

set_option maxHeartbeats 1000000 in
theorem sums_calls (v0 : Value) (l : List UInt8) (w : World) (h0 : Bytes (· < w.heap.size) w v0 l) :
    Calls Try.prog 6 #[v0] w fun e w' => e = .returned (.bool true) ∧ Below w.heap.size w w' := by
  by_cases c1 : l.length ≤ 2000
  · have H0 := Lib.hid h0
    obtain ⟨A, cp, rfl, hl, hc⟩ := h0
    clear hc
    go_enter Try.func6, Try.ntmps6
    go_wp2_with fail
    refine (awake04_calls _).mono ?_
    rintro e w1 ⟨rfl, hb1⟩
    go_wp2_with fail
    refine (of_calls _ l _ _ (H0.out.below hb1)).mono ?_
    rintro e w4 ⟨rfl, rfl⟩
    go_wp2_with fail
    refine (refof_calls _ l _ ((H0.out.below hb1).mono (fun k hk => Nat.lt_of_lt_of_le hk hb1.size)) (by omega)).mono ?_
    rintro e w4 ⟨rfl, hb2⟩
    go_wp2_with fail
    go_ret
    exact ⟨by simp, hb1.trans (hb2.mono hb1.size)⟩
  · have H0 := h0
    obtain ⟨A, cp, rfl, hl, hc⟩ := h0
    clear hc
    have H1 := Lib.hid (H0.cut 2000 (by omega))
    clear H0
    go_enter Try.func6, Try.ntmps6
    go_wp2_with fail
    refine (awake04_calls _).mono ?_
    rintro e w1 ⟨rfl, hb1⟩
    go_wp2_with fail
    refine (of_calls _ (l.take 2000) _ _ (H1.out.below hb1)).mono ?_
    rintro e w4 ⟨rfl, rfl⟩
    go_wp2_with fail
    refine (refof_calls _ (l.take 2000) _ ((H1.out.below hb1).mono (fun k hk => Nat.lt_of_lt_of_le hk hb1.size)) (by simp; omega)).mono ?_
    rintro e w4 ⟨rfl, hb2⟩
    go_wp2_with fail
    go_ret
    exact ⟨by simp, hb1.trans (hb2.mono hb1.size)⟩

end Go.Proofs.Ytddmifbgbmjdaaa
