import Derived.Test.YtddmifbgbmjdaaaRows
import Derived.Test.YtddmifbgbmjdaaaSum
import Derived.Lib.SlBytesConst
set_option linter.unusedVariables false
set_option linter.unusedSimpArgs false
namespace Go.Proofs.Ytddmifbgbmjdaaa
open Go.RowKit

set_option maxHeartbeats 400000 in
theorem info_u8 : (Try.prog.info? 5).map (fun i => (i.zero, i.size, i.bytes)) = some (some (.int .u8 0), 1, 1) := by kernel_rfl

/-- The rows of the fixed facts. -/
def chk9 : List UInt8 := [49, 50, 51, 52, 53, 54, 55, 56, 57]
theorem sum9 : sumN [49, 50, 51, 52, 53, 54, 55, 56, 57] = 3421780262 := by decide +kernel
theorem sum49 : iter stepN (5 * 8) (sumN [49, 50, 51, 52]) ^^^ sumN [53, 54, 55, 56, 57] = 3421780262 := by decide +kernel
theorem sum0 : sumN [] = 0 := by decide +kernel
set_option maxHeartbeats 400000 in
theorem awake04_calls (w : World) : Calls Try.prog 15 #[] w fun e w' => e = .returned (.bool true) ∧ Below w.heap.size w w' := by
  have kc := conv_bytes Try.prog 22 5 Try.underlying22 Try.underlying5
  have s9 := Lib.hid sum9
  have s49 := Lib.hid sum49
  have s0 := Lib.hid sum0
  go_enter Try.func15, Try.ntmps15
  go_wp2_with fail
  refine (of_calls _ [49, 50, 51, 52, 53, 54, 55, 56, 57] _ _ (by exact bytes_lit _ _ _ [49, 50, 51, 52, 53, 54, 55, 56, 57] _ _ _ _ (by simp) rfl rfl (by simp))).mono ?_
  rintro e w1 ⟨rfl, rfl⟩
  rw [s9.out]
  go_wp2_with fail
  refine (of_calls _ [] _ _ (Bytes.nil (fun _ => True) _)).mono ?_
  rintro e w1 ⟨rfl, rfl⟩
  rw [s0.out]
  go_wp2_with fail
  refine (of_calls _ [49, 50, 51, 52] _ _ (by exact bytes_lit _ _ _ [49, 50, 51, 52] _ _ _ _ (by simp) rfl rfl (by simp))).mono ?_
  rintro e w1 ⟨rfl, rfl⟩
  go_wp2_with fail
  refine (of_calls _ [53, 54, 55, 56, 57] _ _ (by exact bytes_lit _ _ _ [53, 54, 55, 56, 57] _ _ _ _ (by simp) rfl rfl (by simp))).mono ?_
  rintro e w1 ⟨rfl, rfl⟩
  go_wp2_with fail
  refine (join_calls (sumN [49, 50, 51, 52]) (sumN [53, 54, 55, 56, 57]) 5 (sumN_lt _) (sumN_lt _) (by omega) _).mono ?_
  rintro e w1 ⟨rfl, rfl⟩
  rw [s49.out]
  go_wp2_with fail
  go_ret
  refine ⟨rfl, ?_⟩
  exact (((Below.refl _ _).alloc (by simp) _).alloc (by simp) _).alloc (by simp; omega) _

set_option maxHeartbeats 400000 in
theorem joins_calls (v0 v1 : Value) (a b : List UInt8) (w : World) (h0 : Bytes (· < w.heap.size) w v0 a) (h1 : Bytes (· < w.heap.size) w v1 b)
    (hlaw : iter stepN (b.length * 8) (sumN a) ^^^ sumN b = sumN (a ++ b)) : Calls Try.prog 3 #[v0, v1] w fun e w' => e = .returned (.bool true) ∧ Below w.heap.size w w' := by
  have H := Lib.hid hlaw
  clear hlaw
  by_cases c0 : a.length ≤ 2000 ∧ b.length ≤ 2000
  · obtain ⟨c1, c2⟩ := c0
    have H0 := Lib.hid h0
    have H1 := Lib.hid h1
    obtain ⟨A, cp, rfl, hl, hc⟩ := h0
    obtain ⟨A1, cp1, rfl, hl1, hc1⟩ := h1
    clear hc hc1
    go_enter Try.func3, Try.ntmps3
    go_wp2_with fail
    refine (awake04_calls _).mono ?_
    rintro e w1 ⟨rfl, hb1⟩
    go_wp2_with fail
    refine (of_calls _ a _ _ (H0.out.below hb1)).mono ?_
    rintro e w1 ⟨rfl, rfl⟩
    go_wp2_with fail
    refine (of_calls _ b _ _ (H1.out.below hb1)).mono ?_
    rintro e w1 ⟨rfl, rfl⟩
    go_wp2_with fail
    refine (join_calls _ _ _ (sumN_lt a) (sumN_lt b) (by omega) _).mono ?_
    rintro e w1 ⟨rfl, rfl⟩
    go_wp2_with (at_builtin; refine wpList_append_bytes (R := (· < w.heap.size)) w1.heap.size _ _ _ 5 rfl Try.underlying22 info_u8 (.slice (some ⟨w1.heap.size, 0, none⟩) 0 0) (.slice A a.length cp) [] a rfl rfl (OwnB.empty _ _ _ (Nat.le_refl _)) ?c1 ?c2 ?c3 rfl ?_)
    case c1 => exact (H0.out.below hb1).below ((Below.refl _ _).alloc (Nat.le_refl _) _)
    case c2 => simp
    case c3 => simp; omega
    intro v1 w2 ho2 hf2 hat2
    have hb2 : Below w.heap.size w w2 := Fr.after (hb1.alloc hb1.size _) hf2 (fun k hk => by have := hb1.size; simp [Value.ownBlock]; omega)
    have hs2 : w1.heap.size + 1 ≤ w2.heap.size := by simpa using hf2.size
    clear hf2
    go_wp2_with (at_builtin; refine wpList_append_bytes (R := (· < w.heap.size)) w1.heap.size _ _ _ 5 rfl Try.underlying22 info_u8 v1 (.slice A1 b.length cp1) ([] ++ a) b rfl rfl ho2 (H1.out.below hb2) ?d1 ?d2 rfl ?_)
    case d1 => omega
    case d2 => simp; omega
    intro v2 w3 ho3 hf3 hat3
    have hb3 : Below w.heap.size w w3 := Fr.after hb2 hf3 (fun k hk e => by have := ho2.base_le k e.symm; have := hb1.size; omega)
    have hr3 := ho3.reads
    go_wp2_with fail
    refine (of_calls _ (a ++ b) _ _ hr3).mono ?_
    rintro e w4 ⟨rfl, rfl⟩
    go_wp2_with fail
    go_ret
    exact ⟨by rw [H.out]; simp, hb3⟩
  · obtain ⟨A, cp, rfl, hl, hc⟩ := h0
    obtain ⟨A1, cp1, rfl, hl1, hc1⟩ := h1
    clear hc hc1
    by_cases c1 : a.length ≤ 2000
    · have c2 : 2000 < b.length := by omega
      clear c0
      go_enter Try.func3, Try.ntmps3
      go_wp2_with fail
      refine (awake04_calls _).mono ?_
      rintro e w1 ⟨rfl, hb1⟩
      go_wp2_with fail
      go_ret
      exact ⟨rfl, hb1⟩
    · clear c0
      go_enter Try.func3, Try.ntmps3
      go_wp2_with fail
      refine (awake04_calls _).mono ?_
      rintro e w1 ⟨rfl, hb1⟩
      go_wp2_with fail
      go_ret
      exact ⟨rfl, hb1⟩

end Go.Proofs.Ytddmifbgbmjdaaa
