/- The code: may, Code, combine, even, Encode. -/
import Derived.Test.YtddmifbgbmjdaabRsMath
import Derived.Test.YtddmifbgbmjdaabMat9
import Derived.Test.YtddmifbgbmjdaabRef2
set_option linter.unusedVariables false
set_option linter.unusedSimpArgs false
namespace Go.Proofs.Ytddmifbgbmjdaab
open Go.RowKit

theorem OwnMat.matr {w : World} {base : Nat} {v : Value} {n c : Nat} {rv : Nat → Value} {F : Nat → Nat → UInt8} (h : OwnMat w base v n rv (fun i => rowL c (F i))) : MatR (base ≤ ·) w v (tab n c F) := h.reads
def mayB (k m : Int) : Bool := decide (1 ≤ k ∧ 0 ≤ m ∧ m ≤ 254 ∧ k ≤ 255 - m)
theorem may_calls (k m : Int) (w : World) (hm : -9223372036854775808 ≤ m ∧ m ≤ 9223372036854775807) : Calls Try.prog 51 #[.int .i64 k, .int .i64 m] w fun e w' => e = .returned (.bool (mayB k m)) ∧ w = w' := by
  have hcase : (1 ≤ k ∧ 0 ≤ m ∧ m ≤ 254 ∧ k ≤ 255 - m) ∨ k < 1 ∨ (1 ≤ k ∧ m < 0) ∨ (1 ≤ k ∧ 0 ≤ m ∧ 254 < m) ∨ (1 ≤ k ∧ 0 ≤ m ∧ m ≤ 254 ∧ 255 - m < k) := by omega
  rcases hcase with ⟨a1, a2, a3, a4⟩ | a1 | ⟨a1, a2⟩ | ⟨a1, a2, a3⟩ | ⟨a1, a2, a3, a4⟩
  · have H : Hid (mayB k m = true) := decide_eq_true ⟨a1, a2, a3, a4⟩
    go_enter Try.func51, Try.ntmps51
    go_wp2_with fail
    go_ret
    exact ⟨by rw [H.out]; rfl, rfl⟩
  all_goals
    have H : Hid (mayB k m = false) := decide_eq_false (fun h => by omega)
    go_enter Try.func51, Try.ntmps51
    go_wp2_with fail
    go_ret
    exact ⟨by rw [H.out]; first | rfl | (show Ending.returned (Value.bool (decide (k ≤ 255 - m))) = _; rw [decide_eq_false (by omega)]), rfl⟩
theorem code_bad (k m : Int) (w : World) (hm : -9223372036854775808 ≤ m ∧ m ≤ 9223372036854775807) (h : mayB k m = false) : Calls Try.prog 28 #[.int .i64 k, .int .i64 m] w fun e w' => e = .returned (.tuple #[.slice none 0 0, .int .i64 3]) ∧ w = w' := by
  have H := Lib.hid h
  have Hm := Lib.hid hm
  clear h hm
  go_enter Try.func28, Try.ntmps28
  go_wp2_with fail
  refine (may_calls k m _ Hm.out).mono ?_
  rintro e w1 ⟨rfl, rfl⟩
  rw [H.out]
  go_wp2_with fail
  go_ret2
  exact ⟨rfl, rfl⟩
theorem mayB_nat (k m : Nat) (h1 : 1 ≤ k) (h2 : k + m ≤ 255) : mayB (k : Int) (m : Int) = true := decide_eq_true ⟨by omega, by omega, by omega, by omega⟩
set_option maxHeartbeats 4000000 in
theorem code_calls (k m : Nat) (h1 : 1 ≤ k) (h2 : k + m ≤ 255) (w : World) : Calls Try.prog 28 #[.int .i64 (k : Int), .int .i64 (m : Int)] w fun e w' => ∃ v rv C, e = .returned (.tuple #[v, .int .i64 0]) ∧ CodeP k (k + m) C ∧ OwnMat w' w.heap.size v (k + m) rv (fun i => rowL k (C i)) ∧ Below w.heap.size w w' := by
  have H := Lib.hid (mayB_nat k m h1 h2)
  have hkm : IntKind.i64.wrap ((k : Int) + (m : Int)) = (k : Int) + (m : Int) := by rw [IntKind.wrap_i64]; omega
  go_enter Try.func28, Try.ntmps28
  go_wp2_with fail
  refine (may_calls k m _ (by omega)).mono ?_
  rintro e w1 ⟨rfl, rfl⟩
  rw [H.out]
  go_wp2_with fail
  rw [show ((k : Int) + (m : Int)) = ((k + m : Nat) : Int) from by omega]
  refine (vander_calls (k + m) k (by omega) (by omega) (by omega) (by omega) _).mono ?_
  rintro e w1 ⟨v, rv, rfl, hov, hb1⟩
  have HV1 : Hid (MatR (w.heap.size ≤ ·) w1 v (tab (k + m) k vanF)) := hov.matr
  have HW1 := Lib.hid hb1
  clear hov hb1
  obtain ⟨Av, cv, rfl, hcv, -⟩ := HV1.out.form
  have hkk : (k : Int) ≤ (cv : Int) := by omega
  have HT1 : Hid (MatR (w.heap.size ≤ ·) w1 (.slice Av k cv) (tab k k vanF)) := by
    have := HV1.out.cut k (by rw [tab_length]; omega)
    rw [show (tab (k + m) k vanF).take k = tab k k vanF from by unfold tab; rw [← List.map_take, List.take_range, Nat.min_eq_left (by omega)]] at this
    exact this
  go_wp2_with fail
  refine (inverse_calls _ k vanF _ _ HT1.out (by omega) (by omega)).mono ?_
  rintro e w2 ⟨(⟨x, rx, Fo, rfl, hox, hi1, hi2⟩ | ⟨rfl, x, c, hc, hx, hk⟩), hb2⟩
  · have HX2 := Lib.hid hox.matr
    have HV2 := Lib.hid (HV1.out.below hb2)
    have HW2 : Hid (Below w.heap.size w w2) := HW1.out.trans (hb2.mono HW1.out.size)
    have HI := Lib.hid hi1
    clear hox hi1 hi2 hb2 HV1 HT1
    go_wp2_with fail
    refine (mmul_calls _ _ (k + m) k k vanF Fo _ _ _ HV2.out HX2.out (by omega) (by omega) (by omega) (by omega) (by omega) (by omega)).mono ?_
    rintro e w3 ⟨p, rp, rfl, hop, hb3⟩
    have HO3 := Lib.hid hop
    have HW3 : Hid (Below w.heap.size w w3) := HW2.out.trans (hb3.mono HW2.out.size)
    have hs2 := HW2.out.size
    clear hop hb3
    go_wp2_with fail
    go_ret2
    exact ⟨_, rp, mulF k vanF Fo, rfl, CodeP.made HI.out, ⟨HO3.out.top.lower hs2, HO3.out.rows.lower hs2⟩, HW3.out⟩
  · exact absurd (van_ker (by omega) x hk c hc) (by rw [hx]; decide)
end Go.Proofs.Ytddmifbgbmjdaab
