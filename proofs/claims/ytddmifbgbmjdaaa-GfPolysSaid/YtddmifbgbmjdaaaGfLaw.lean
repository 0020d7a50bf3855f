/- The fixed fact of layer 1. -/
import Derived.Test.YtddmifbgbmjdaaaGfTab
set_option linter.unusedVariables false
set_option linter.unusedSimpArgs false
namespace Go.Proofs.Ytddmifbgbmjdaaa
open Go.RowKit

theorem log29 : logI 29 = (8, true) := by
  unfold logI
  rw [if_neg (by decide), glog_of (n := 8) (by omega) (by decide +kernel)]
  rfl
set_option maxHeartbeats 2000000 in
theorem awake01_calls (w : World) : Calls Try.prog 20 #[] w fun e w' => e = .returned (.bool true) ∧ Below w.heap.size w w' := by
  have h1 := Lib.hid log29
  have h2 : Hid (gmul 128 2 = 29) := by unfold Hid; decide +kernel
  have h3 : Hid (ginv 2 = 142) := by unfold Hid; decide +kernel
  have h4 : Hid (gpow 2 ((-247 : Int) % 255).toNat = 29) := by unfold Hid; decide +kernel
  have h5 : Hid (geval 2 [1, 1] = 3) := by unfold Hid; decide +kernel
  go_enter Try.func20, Try.ntmps20
  go_wp2_with fail
  refine Calls.mono (show Calls _ _ #[.int .u8 29] _ _ from log8 29 _) ?_
  rintro e w1 ⟨rfl, rfl⟩
  rw [h1.out]
  go_wp2_with fail
  refine (made_calls _).mono ?_
  rintro e w1 ⟨rfl, ht, hb⟩
  have Ht := Lib.hid ht
  have Hb := Lib.hid hb
  clear ht hb
  go_wp2_with fail
  refine Calls.mono (show Calls _ _ #[.int .u8 128, .int .u8 2] _ _ from mul8 128 2 _) ?_
  rintro e w2 ⟨rfl, rfl⟩
  rw [h2.out]
  go_wp2_with fail
  refine Calls.mono (show Calls _ _ #[.int .u8 2] _ _ from inv8 2 _) ?_
  rintro e w2 ⟨rfl, rfl⟩
  rw [h3.out]
  go_wp2_with fail
  refine Calls.mono (pow8 (-247) (by omega) _) ?_
  rintro e w2 ⟨rfl, rfl⟩
  rw [h4.out]
  go_wp2_with fail
  refine Calls.mono (show Calls _ _ #[_, .int .u8 2] _ _ from eval8 _ [1, 1] 2 _ _ (by exact bytes_lit _ _ _ [1, 1] _ _ _ _ rfl rfl rfl (by simp)) (by simp)) ?_
  rintro e w3 ⟨rfl, D⟩
  rw [h5.out]
  have Hb3 : Hid (Below w.heap.size w w3) := (Hb.out.alloc Hb.out.size _).trans (D.below _)
  have Ht3 : Hid (TabAt w3 w.heap.size) := (Ht.out.below ((Below.refl _ _).alloc (Nat.le_refl _) _) Ht.out.lt).below (D.below w1.heap.size) Ht.out.lt
  clear Hb Ht
  go_wp2_with fail
  refine Calls.mono (show Calls _ _ #[_, .int .u8 128, .int .u8 2] _ _ from tmul8 _ 128 2 _ Ht3.out) ?_
  rintro e w4 ⟨rfl, D2⟩
  rw [h2.out]
  go_wp2_with fail
  go_ret
  exact ⟨rfl, Hb3.out.trans (D2.below _)⟩
end Go.Proofs.Ytddmifbgbmjdaaa
