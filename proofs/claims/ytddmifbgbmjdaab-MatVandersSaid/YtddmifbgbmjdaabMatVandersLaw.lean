/- MatVanders, walked. -/
import Derived.Test.YtddmifbgbmjdaabLaw02
set_option linter.unusedVariables false
set_option linter.unusedSimpArgs false
namespace Go.Proofs.Ytddmifbgbmjdaab
open Go.RowKit

set_option maxHeartbeats 4000000 in
theorem vand_11 (r : Nat) (h1 : 1 ≤ r) (h2 : r ≤ 40) (c : Nat) (g1 : 1 ≤ c) (g2 : c ≤ 40) (w : World) :
    Calls Try.prog 5 #[.int .i64 (r : Int), .int .i64 (c : Int)] w fun e w' => e = .returned (.bool true) ∧ Below w.heap.size w w' := by
  go_enter Try.func5, Try.ntmps5
  go_wp2_with fail
  refine (vander_calls r c (by omega) (by omega) (by omega) (by omega) _).mono ?_
  rintro e w1 ⟨v, rv, rfl, hov, hb1⟩
  have HV1 := Lib.hid hov.mat
  have HW1 := Lib.hid hb1
  clear hov hb1
  go_wp2_with fail
  refine (one_calls r (by omega) (by omega) _).mono ?_
  rintro e w2 ⟨o, ro, rfl, hoo, hb2⟩
  have HO2 := Lib.hid hoo.mat
  have HV2 := Lib.hid (HV1.out.below hb2)
  have HW2 : Hid (Below w.heap.size w w2) := HW1.out.trans (hb2.mono HW1.out.size)
  clear hoo hb2 HV1 HW1
  go_wp2_with fail
  refine (rone_calls r (by omega) _).mono ?_
  rintro e w3 ⟨p, rp, rfl, hop, hb3⟩
  have HP3 := Lib.hid hop.mat
  have HO3 := Lib.hid (HO2.out.below hb3)
  have HV3 := Lib.hid (HV2.out.below hb3)
  have HW3 : Hid (Below w.heap.size w w3) := HW2.out.trans (hb3.mono HW2.out.size)
  clear hop hb3 HO2 HV2 HW2
  go_wp2_with fail
  refine (same_calls _ _ _ _ _ _ _ HO3.out HP3.out).mono ?_
  rintro e w4 ⟨rfl, n4, rfl⟩
  rw [decide_eq_true (rfl : tab r r oneF = tab r r oneF)]
  have HV4 := Lib.hid (HV3.out.below (below_drewN (Below.refl _ _) n4))
  have HW4 : Hid (Below w.heap.size w (w3.drewN n4)) := below_drewN HW3.out n4
  clear HV3 HW3 HO3 HP3
  generalize w3.drewN n4 = w4 at *
  go_wp2_with fail
  refine (awake02_calls _).mono ?_
  rintro e w5 ⟨rfl, hb5⟩
  have HV5 := Lib.hid (HV4.out.below hb5)
  have HW5 : Hid (Below w.heap.size w w5) := HW4.out.trans (hb5.mono HW4.out.size)
  clear hb5 HV4 HW4
  go_wp2_with fail
  refine (rvander_calls r c (by omega) (by omega) _).mono ?_
  rintro e w6 ⟨q, rq, rfl, hoq, hb6⟩
  have HQ6 := Lib.hid hoq.mat
  have HV6 := Lib.hid (HV5.out.below hb6)
  have HW6 : Hid (Below w.heap.size w w6) := HW5.out.trans (hb6.mono HW5.out.size)
  clear hoq hb6 HV5 HW5
  go_wp2_with fail
  refine (same_calls _ _ _ _ _ _ _ HV6.out HQ6.out).mono ?_
  rintro e w7 ⟨rfl, n7, rfl⟩
  rw [decide_eq_true rfl]
  go_wp2_with fail
  go_ret
  exact ⟨rfl, below_drewN HW6.out n7⟩
set_option maxHeartbeats 4000000 in
theorem vand_12 (r : Nat) (h1 : 1 ≤ r) (h2 : r ≤ 40) (b : Int) (g1 : 40 < b) (g2 : b ≤ 256) (w : World) :
    Calls Try.prog 5 #[.int .i64 (r : Int), .int .i64 b] w fun e w' => e = .returned (.bool true) ∧ Below w.heap.size w w' := by
  go_enter Try.func5, Try.ntmps5
  go_wp2_with fail
  refine (vander_calls r 40 (by omega) (by omega) (by omega) (by omega) _).mono ?_
  rintro e w1 ⟨v, rv, rfl, hov, hb1⟩
  have HV1 := Lib.hid hov.mat
  have HW1 := Lib.hid hb1
  clear hov hb1
  go_wp2_with fail
  refine (one_calls r (by omega) (by omega) _).mono ?_
  rintro e w2 ⟨o, ro, rfl, hoo, hb2⟩
  have HO2 := Lib.hid hoo.mat
  have HV2 := Lib.hid (HV1.out.below hb2)
  have HW2 : Hid (Below w.heap.size w w2) := HW1.out.trans (hb2.mono HW1.out.size)
  clear hoo hb2 HV1 HW1
  go_wp2_with fail
  refine (rone_calls r (by omega) _).mono ?_
  rintro e w3 ⟨p, rp, rfl, hop, hb3⟩
  have HP3 := Lib.hid hop.mat
  have HO3 := Lib.hid (HO2.out.below hb3)
  have HV3 := Lib.hid (HV2.out.below hb3)
  have HW3 : Hid (Below w.heap.size w w3) := HW2.out.trans (hb3.mono HW2.out.size)
  clear hop hb3 HO2 HV2 HW2
  go_wp2_with fail
  refine (same_calls _ _ _ _ _ _ _ HO3.out HP3.out).mono ?_
  rintro e w4 ⟨rfl, n4, rfl⟩
  rw [decide_eq_true (rfl : tab r r oneF = tab r r oneF)]
  have HV4 := Lib.hid (HV3.out.below (below_drewN (Below.refl _ _) n4))
  have HW4 : Hid (Below w.heap.size w (w3.drewN n4)) := below_drewN HW3.out n4
  clear HV3 HW3 HO3 HP3
  generalize w3.drewN n4 = w4 at *
  go_wp2_with fail
  refine (awake02_calls _).mono ?_
  rintro e w5 ⟨rfl, hb5⟩
  have HV5 := Lib.hid (HV4.out.below hb5)
  have HW5 : Hid (Below w.heap.size w w5) := HW4.out.trans (hb5.mono HW4.out.size)
  clear hb5 HV4 HW4
  go_wp2_with fail
  refine (rvander_calls r 40 (by omega) (by omega) _).mono ?_
  rintro e w6 ⟨q, rq, rfl, hoq, hb6⟩
  have HQ6 := Lib.hid hoq.mat
  have HV6 := Lib.hid (HV5.out.below hb6)
  have HW6 : Hid (Below w.heap.size w w6) := HW5.out.trans (hb6.mono HW5.out.size)
  clear hoq hb6 HV5 HW5
  go_wp2_with fail
  refine (same_calls _ _ _ _ _ _ _ HV6.out HQ6.out).mono ?_
  rintro e w7 ⟨rfl, n7, rfl⟩
  rw [decide_eq_true rfl]
  go_wp2_with fail
  go_ret
  exact ⟨rfl, below_drewN HW6.out n7⟩
set_option maxHeartbeats 4000000 in
theorem vand_13 (r : Nat) (h1 : 1 ≤ r) (h2 : r ≤ 40) (b : Int) (g1 : b < 1) (w : World) :
    Calls Try.prog 5 #[.int .i64 (r : Int), .int .i64 b] w fun e w' => e = .returned (.bool true) ∧ Below w.heap.size w w' := by
  go_enter Try.func5, Try.ntmps5
  go_wp2_with fail
  refine (vander_bad _ _ (by omega) _).mono ?_
  rintro e w1 ⟨rfl, rfl⟩
  go_wp2_with fail
  refine (one_calls r (by omega) (by omega) _).mono ?_
  rintro e w2 ⟨o, ro, rfl, hoo, hb2⟩
  have HO2 := Lib.hid hoo.mat
  have HW2 := Lib.hid hb2
  clear hoo hb2
  go_wp2_with fail
  refine (rone_calls r (by omega) _).mono ?_
  rintro e w3 ⟨p, rp, rfl, hop, hb3⟩
  have HP3 := Lib.hid hop.mat
  have HO3 := Lib.hid (HO2.out.below hb3)
  have HW3 := Lib.hid (HW2.out.trans (hb3.mono HW2.out.size))
  clear hop hb3 HO2 HW2
  go_wp2_with fail
  refine (same_calls _ _ _ _ _ _ _ HO3.out HP3.out).mono ?_
  rintro e w4 ⟨rfl, n4, rfl⟩
  rw [decide_eq_true (rfl : tab r r oneF = tab r r oneF)]
  have HW4 := Lib.hid (below_drewN HW3.out n4)
  clear HW3 HO3 HP3
  generalize w3.drewN n4 = w4 at *
  go_wp2_with fail
  refine (awake02_calls _).mono ?_
  rintro e w5 ⟨rfl, hb5⟩
  go_wp2_with fail
  go_ret
  exact ⟨rfl, HW4.out.trans (hb5.mono HW4.out.size)⟩
set_option maxHeartbeats 4000000 in
theorem vand_14 (r : Nat) (h1 : 1 ≤ r) (h2 : r ≤ 40) (b : Int) (g1 : 256 < b) (w : World) :
    Calls Try.prog 5 #[.int .i64 (r : Int), .int .i64 b] w fun e w' => e = .returned (.bool true) ∧ Below w.heap.size w w' := by
  go_enter Try.func5, Try.ntmps5
  go_wp2_with fail
  refine (vander_bad _ _ (by omega) _).mono ?_
  rintro e w1 ⟨rfl, rfl⟩
  go_wp2_with fail
  refine (one_calls r (by omega) (by omega) _).mono ?_
  rintro e w2 ⟨o, ro, rfl, hoo, hb2⟩
  have HO2 := Lib.hid hoo.mat
  have HW2 := Lib.hid hb2
  clear hoo hb2
  go_wp2_with fail
  refine (rone_calls r (by omega) _).mono ?_
  rintro e w3 ⟨p, rp, rfl, hop, hb3⟩
  have HP3 := Lib.hid hop.mat
  have HO3 := Lib.hid (HO2.out.below hb3)
  have HW3 := Lib.hid (HW2.out.trans (hb3.mono HW2.out.size))
  clear hop hb3 HO2 HW2
  go_wp2_with fail
  refine (same_calls _ _ _ _ _ _ _ HO3.out HP3.out).mono ?_
  rintro e w4 ⟨rfl, n4, rfl⟩
  rw [decide_eq_true (rfl : tab r r oneF = tab r r oneF)]
  have HW4 := Lib.hid (below_drewN HW3.out n4)
  clear HW3 HO3 HP3
  generalize w3.drewN n4 = w4 at *
  go_wp2_with fail
  refine (awake02_calls _).mono ?_
  rintro e w5 ⟨rfl, hb5⟩
  go_wp2_with fail
  go_ret
  exact ⟨rfl, HW4.out.trans (hb5.mono HW4.out.size)⟩
set_option maxHeartbeats 4000000 in
theorem vand_21 (a : Int) (h1 : 40 < a) (h2 : a ≤ 256) (c : Nat) (g1 : 1 ≤ c) (g2 : c ≤ 40) (w : World) :
    Calls Try.prog 5 #[.int .i64 a, .int .i64 (c : Int)] w fun e w' => e = .returned (.bool true) ∧ Below w.heap.size w w' := by
  go_enter Try.func5, Try.ntmps5
  go_wp2_with fail
  refine (vander_calls 40 c (by omega) (by omega) (by omega) (by omega) _).mono ?_
  rintro e w1 ⟨v, rv, rfl, hov, hb1⟩
  have HV1 := Lib.hid hov.mat
  have HW1 := Lib.hid hb1
  clear hov hb1
  go_wp2_with fail
  refine (one_calls 40 (by omega) (by omega) _).mono ?_
  rintro e w2 ⟨o, ro, rfl, hoo, hb2⟩
  have HO2 := Lib.hid hoo.mat
  have HV2 := Lib.hid (HV1.out.below hb2)
  have HW2 : Hid (Below w.heap.size w w2) := HW1.out.trans (hb2.mono HW1.out.size)
  clear hoo hb2 HV1 HW1
  go_wp2_with fail
  refine (rone_calls 40 (by omega) _).mono ?_
  rintro e w3 ⟨p, rp, rfl, hop, hb3⟩
  have HP3 := Lib.hid hop.mat
  have HO3 := Lib.hid (HO2.out.below hb3)
  have HV3 := Lib.hid (HV2.out.below hb3)
  have HW3 : Hid (Below w.heap.size w w3) := HW2.out.trans (hb3.mono HW2.out.size)
  clear hop hb3 HO2 HV2 HW2
  go_wp2_with fail
  refine (same_calls _ _ _ _ _ _ _ HO3.out HP3.out).mono ?_
  rintro e w4 ⟨rfl, n4, rfl⟩
  rw [decide_eq_true (rfl : tab 40 40 oneF = tab 40 40 oneF)]
  have HV4 := Lib.hid (HV3.out.below (below_drewN (Below.refl _ _) n4))
  have HW4 : Hid (Below w.heap.size w (w3.drewN n4)) := below_drewN HW3.out n4
  clear HV3 HW3 HO3 HP3
  generalize w3.drewN n4 = w4 at *
  go_wp2_with fail
  refine (awake02_calls _).mono ?_
  rintro e w5 ⟨rfl, hb5⟩
  have HV5 := Lib.hid (HV4.out.below hb5)
  have HW5 : Hid (Below w.heap.size w w5) := HW4.out.trans (hb5.mono HW4.out.size)
  clear hb5 HV4 HW4
  go_wp2_with fail
  refine (rvander_calls 40 c (by omega) (by omega) _).mono ?_
  rintro e w6 ⟨q, rq, rfl, hoq, hb6⟩
  have HQ6 := Lib.hid hoq.mat
  have HV6 := Lib.hid (HV5.out.below hb6)
  have HW6 : Hid (Below w.heap.size w w6) := HW5.out.trans (hb6.mono HW5.out.size)
  clear hoq hb6 HV5 HW5
  go_wp2_with fail
  refine (same_calls _ _ _ _ _ _ _ HV6.out HQ6.out).mono ?_
  rintro e w7 ⟨rfl, n7, rfl⟩
  rw [decide_eq_true rfl]
  go_wp2_with fail
  go_ret
  exact ⟨rfl, below_drewN HW6.out n7⟩
set_option maxHeartbeats 4000000 in
theorem vand_22 (a : Int) (h1 : 40 < a) (h2 : a ≤ 256) (b : Int) (g1 : 40 < b) (g2 : b ≤ 256) (w : World) :
    Calls Try.prog 5 #[.int .i64 a, .int .i64 b] w fun e w' => e = .returned (.bool true) ∧ Below w.heap.size w w' := by
  go_enter Try.func5, Try.ntmps5
  go_wp2_with fail
  refine (vander_calls 40 40 (by omega) (by omega) (by omega) (by omega) _).mono ?_
  rintro e w1 ⟨v, rv, rfl, hov, hb1⟩
  have HV1 := Lib.hid hov.mat
  have HW1 := Lib.hid hb1
  clear hov hb1
  go_wp2_with fail
  refine (one_calls 40 (by omega) (by omega) _).mono ?_
  rintro e w2 ⟨o, ro, rfl, hoo, hb2⟩
  have HO2 := Lib.hid hoo.mat
  have HV2 := Lib.hid (HV1.out.below hb2)
  have HW2 : Hid (Below w.heap.size w w2) := HW1.out.trans (hb2.mono HW1.out.size)
  clear hoo hb2 HV1 HW1
  go_wp2_with fail
  refine (rone_calls 40 (by omega) _).mono ?_
  rintro e w3 ⟨p, rp, rfl, hop, hb3⟩
  have HP3 := Lib.hid hop.mat
  have HO3 := Lib.hid (HO2.out.below hb3)
  have HV3 := Lib.hid (HV2.out.below hb3)
  have HW3 : Hid (Below w.heap.size w w3) := HW2.out.trans (hb3.mono HW2.out.size)
  clear hop hb3 HO2 HV2 HW2
  go_wp2_with fail
  refine (same_calls _ _ _ _ _ _ _ HO3.out HP3.out).mono ?_
  rintro e w4 ⟨rfl, n4, rfl⟩
  rw [decide_eq_true (rfl : tab 40 40 oneF = tab 40 40 oneF)]
  have HV4 := Lib.hid (HV3.out.below (below_drewN (Below.refl _ _) n4))
  have HW4 : Hid (Below w.heap.size w (w3.drewN n4)) := below_drewN HW3.out n4
  clear HV3 HW3 HO3 HP3
  generalize w3.drewN n4 = w4 at *
  go_wp2_with fail
  refine (awake02_calls _).mono ?_
  rintro e w5 ⟨rfl, hb5⟩
  have HV5 := Lib.hid (HV4.out.below hb5)
  have HW5 : Hid (Below w.heap.size w w5) := HW4.out.trans (hb5.mono HW4.out.size)
  clear hb5 HV4 HW4
  go_wp2_with fail
  refine (rvander_calls 40 40 (by omega) (by omega) _).mono ?_
  rintro e w6 ⟨q, rq, rfl, hoq, hb6⟩
  have HQ6 := Lib.hid hoq.mat
  have HV6 := Lib.hid (HV5.out.below hb6)
  have HW6 : Hid (Below w.heap.size w w6) := HW5.out.trans (hb6.mono HW5.out.size)
  clear hoq hb6 HV5 HW5
  go_wp2_with fail
  refine (same_calls _ _ _ _ _ _ _ HV6.out HQ6.out).mono ?_
  rintro e w7 ⟨rfl, n7, rfl⟩
  rw [decide_eq_true rfl]
  go_wp2_with fail
  go_ret
  exact ⟨rfl, below_drewN HW6.out n7⟩
set_option maxHeartbeats 4000000 in
theorem vand_23 (a : Int) (h1 : 40 < a) (h2 : a ≤ 256) (b : Int) (g1 : b < 1) (w : World) :
    Calls Try.prog 5 #[.int .i64 a, .int .i64 b] w fun e w' => e = .returned (.bool true) ∧ Below w.heap.size w w' := by
  go_enter Try.func5, Try.ntmps5
  go_wp2_with fail
  refine (vander_bad _ _ (by omega) _).mono ?_
  rintro e w1 ⟨rfl, rfl⟩
  go_wp2_with fail
  refine (one_calls 40 (by omega) (by omega) _).mono ?_
  rintro e w2 ⟨o, ro, rfl, hoo, hb2⟩
  have HO2 := Lib.hid hoo.mat
  have HW2 := Lib.hid hb2
  clear hoo hb2
  go_wp2_with fail
  refine (rone_calls 40 (by omega) _).mono ?_
  rintro e w3 ⟨p, rp, rfl, hop, hb3⟩
  have HP3 := Lib.hid hop.mat
  have HO3 := Lib.hid (HO2.out.below hb3)
  have HW3 := Lib.hid (HW2.out.trans (hb3.mono HW2.out.size))
  clear hop hb3 HO2 HW2
  go_wp2_with fail
  refine (same_calls _ _ _ _ _ _ _ HO3.out HP3.out).mono ?_
  rintro e w4 ⟨rfl, n4, rfl⟩
  rw [decide_eq_true (rfl : tab 40 40 oneF = tab 40 40 oneF)]
  have HW4 := Lib.hid (below_drewN HW3.out n4)
  clear HW3 HO3 HP3
  generalize w3.drewN n4 = w4 at *
  go_wp2_with fail
  refine (awake02_calls _).mono ?_
  rintro e w5 ⟨rfl, hb5⟩
  go_wp2_with fail
  go_ret
  exact ⟨rfl, HW4.out.trans (hb5.mono HW4.out.size)⟩
set_option maxHeartbeats 4000000 in
theorem vand_24 (a : Int) (h1 : 40 < a) (h2 : a ≤ 256) (b : Int) (g1 : 256 < b) (w : World) :
    Calls Try.prog 5 #[.int .i64 a, .int .i64 b] w fun e w' => e = .returned (.bool true) ∧ Below w.heap.size w w' := by
  go_enter Try.func5, Try.ntmps5
  go_wp2_with fail
  refine (vander_bad _ _ (by omega) _).mono ?_
  rintro e w1 ⟨rfl, rfl⟩
  go_wp2_with fail
  refine (one_calls 40 (by omega) (by omega) _).mono ?_
  rintro e w2 ⟨o, ro, rfl, hoo, hb2⟩
  have HO2 := Lib.hid hoo.mat
  have HW2 := Lib.hid hb2
  clear hoo hb2
  go_wp2_with fail
  refine (rone_calls 40 (by omega) _).mono ?_
  rintro e w3 ⟨p, rp, rfl, hop, hb3⟩
  have HP3 := Lib.hid hop.mat
  have HO3 := Lib.hid (HO2.out.below hb3)
  have HW3 := Lib.hid (HW2.out.trans (hb3.mono HW2.out.size))
  clear hop hb3 HO2 HW2
  go_wp2_with fail
  refine (same_calls _ _ _ _ _ _ _ HO3.out HP3.out).mono ?_
  rintro e w4 ⟨rfl, n4, rfl⟩
  rw [decide_eq_true (rfl : tab 40 40 oneF = tab 40 40 oneF)]
  have HW4 := Lib.hid (below_drewN HW3.out n4)
  clear HW3 HO3 HP3
  generalize w3.drewN n4 = w4 at *
  go_wp2_with fail
  refine (awake02_calls _).mono ?_
  rintro e w5 ⟨rfl, hb5⟩
  go_wp2_with fail
  go_ret
  exact ⟨rfl, HW4.out.trans (hb5.mono HW4.out.size)⟩
set_option maxHeartbeats 4000000 in
theorem vand_31 (a : Int) (h1 : a < 1) (c : Nat) (g1 : 1 ≤ c) (g2 : c ≤ 40) (w : World) :
    Calls Try.prog 5 #[.int .i64 a, .int .i64 (c : Int)] w fun e w' => e = .returned (.bool true) ∧ Below w.heap.size w w' := by
  go_enter Try.func5, Try.ntmps5
  go_wp2_with fail
  refine (vander_bad _ _ (by omega) _).mono ?_
  rintro e w1 ⟨rfl, rfl⟩
  go_wp2_with fail
  refine (one_bad _ (by omega) _).mono ?_
  rintro e w2 ⟨rfl, rfl⟩
  go_wp2_with fail
  refine (awake02_calls _).mono ?_
  rintro e w5 ⟨rfl, hb5⟩
  go_wp2_with fail
  go_ret
  exact ⟨rfl, hb5⟩
set_option maxHeartbeats 4000000 in
theorem vand_32 (a : Int) (h1 : a < 1) (b : Int) (g1 : 40 < b) (g2 : b ≤ 256) (w : World) :
    Calls Try.prog 5 #[.int .i64 a, .int .i64 b] w fun e w' => e = .returned (.bool true) ∧ Below w.heap.size w w' := by
  go_enter Try.func5, Try.ntmps5
  go_wp2_with fail
  refine (vander_bad _ _ (by omega) _).mono ?_
  rintro e w1 ⟨rfl, rfl⟩
  go_wp2_with fail
  refine (one_bad _ (by omega) _).mono ?_
  rintro e w2 ⟨rfl, rfl⟩
  go_wp2_with fail
  refine (awake02_calls _).mono ?_
  rintro e w5 ⟨rfl, hb5⟩
  go_wp2_with fail
  go_ret
  exact ⟨rfl, hb5⟩
set_option maxHeartbeats 4000000 in
theorem vand_33 (a : Int) (h1 : a < 1) (b : Int) (g1 : b < 1) (w : World) :
    Calls Try.prog 5 #[.int .i64 a, .int .i64 b] w fun e w' => e = .returned (.bool true) ∧ Below w.heap.size w w' := by
  go_enter Try.func5, Try.ntmps5
  go_wp2_with fail
  refine (vander_bad _ _ (by omega) _).mono ?_
  rintro e w1 ⟨rfl, rfl⟩
  go_wp2_with fail
  refine (one_bad _ (by omega) _).mono ?_
  rintro e w2 ⟨rfl, rfl⟩
  go_wp2_with fail
  refine (awake02_calls _).mono ?_
  rintro e w5 ⟨rfl, hb5⟩
  go_wp2_with fail
  go_ret
  exact ⟨rfl, hb5⟩
set_option maxHeartbeats 4000000 in
theorem vand_34 (a : Int) (h1 : a < 1) (b : Int) (g1 : 256 < b) (w : World) :
    Calls Try.prog 5 #[.int .i64 a, .int .i64 b] w fun e w' => e = .returned (.bool true) ∧ Below w.heap.size w w' := by
  go_enter Try.func5, Try.ntmps5
  go_wp2_with fail
  refine (vander_bad _ _ (by omega) _).mono ?_
  rintro e w1 ⟨rfl, rfl⟩
  go_wp2_with fail
  refine (one_bad _ (by omega) _).mono ?_
  rintro e w2 ⟨rfl, rfl⟩
  go_wp2_with fail
  refine (awake02_calls _).mono ?_
  rintro e w5 ⟨rfl, hb5⟩
  go_wp2_with fail
  go_ret
  exact ⟨rfl, hb5⟩
set_option maxHeartbeats 4000000 in
theorem vand_41 (a : Int) (h1 : 256 < a) (c : Nat) (g1 : 1 ≤ c) (g2 : c ≤ 40) (w : World) :
    Calls Try.prog 5 #[.int .i64 a, .int .i64 (c : Int)] w fun e w' => e = .returned (.bool true) ∧ Below w.heap.size w w' := by
  go_enter Try.func5, Try.ntmps5
  go_wp2_with fail
  refine (vander_bad _ _ (by omega) _).mono ?_
  rintro e w1 ⟨rfl, rfl⟩
  go_wp2_with fail
  refine (one_bad _ (by omega) _).mono ?_
  rintro e w2 ⟨rfl, rfl⟩
  go_wp2_with fail
  refine (awake02_calls _).mono ?_
  rintro e w5 ⟨rfl, hb5⟩
  go_wp2_with fail
  go_ret
  exact ⟨rfl, hb5⟩
set_option maxHeartbeats 4000000 in
theorem vand_42 (a : Int) (h1 : 256 < a) (b : Int) (g1 : 40 < b) (g2 : b ≤ 256) (w : World) :
    Calls Try.prog 5 #[.int .i64 a, .int .i64 b] w fun e w' => e = .returned (.bool true) ∧ Below w.heap.size w w' := by
  go_enter Try.func5, Try.ntmps5
  go_wp2_with fail
  refine (vander_bad _ _ (by omega) _).mono ?_
  rintro e w1 ⟨rfl, rfl⟩
  go_wp2_with fail
  refine (one_bad _ (by omega) _).mono ?_
  rintro e w2 ⟨rfl, rfl⟩
  go_wp2_with fail
  refine (awake02_calls _).mono ?_
  rintro e w5 ⟨rfl, hb5⟩
  go_wp2_with fail
  go_ret
  exact ⟨rfl, hb5⟩
set_option maxHeartbeats 4000000 in
theorem vand_43 (a : Int) (h1 : 256 < a) (b : Int) (g1 : b < 1) (w : World) :
    Calls Try.prog 5 #[.int .i64 a, .int .i64 b] w fun e w' => e = .returned (.bool true) ∧ Below w.heap.size w w' := by
  go_enter Try.func5, Try.ntmps5
  go_wp2_with fail
  refine (vander_bad _ _ (by omega) _).mono ?_
  rintro e w1 ⟨rfl, rfl⟩
  go_wp2_with fail
  refine (one_bad _ (by omega) _).mono ?_
  rintro e w2 ⟨rfl, rfl⟩
  go_wp2_with fail
  refine (awake02_calls _).mono ?_
  rintro e w5 ⟨rfl, hb5⟩
  go_wp2_with fail
  go_ret
  exact ⟨rfl, hb5⟩
set_option maxHeartbeats 4000000 in
theorem vand_44 (a : Int) (h1 : 256 < a) (b : Int) (g1 : 256 < b) (w : World) :
    Calls Try.prog 5 #[.int .i64 a, .int .i64 b] w fun e w' => e = .returned (.bool true) ∧ Below w.heap.size w w' := by
  go_enter Try.func5, Try.ntmps5
  go_wp2_with fail
  refine (vander_bad _ _ (by omega) _).mono ?_
  rintro e w1 ⟨rfl, rfl⟩
  go_wp2_with fail
  refine (one_bad _ (by omega) _).mono ?_
  rintro e w2 ⟨rfl, rfl⟩
  go_wp2_with fail
  refine (awake02_calls _).mono ?_
  rintro e w5 ⟨rfl, hb5⟩
  go_wp2_with fail
  go_ret
  exact ⟨rfl, hb5⟩
theorem mat_vanders (a b : Int) (w : World) (ha : -9223372036854775808 ≤ a ∧ a ≤ 9223372036854775807) (hb : -9223372036854775808 ≤ b ∧ b ≤ 9223372036854775807) :
    Calls Try.prog 5 #[.int .i64 a, .int .i64 b] w fun e w' => e = .returned (.bool true) ∧ Below w.heap.size w w' := by
  rcases (by omega : (1 ≤ a ∧ a ≤ 40) ∨ (40 < a ∧ a ≤ 256) ∨ a < 1 ∨ 256 < a) with h | h | h | h <;> rcases (by omega : (1 ≤ b ∧ b ≤ 40) ∨ (40 < b ∧ b ≤ 256) ∨ b < 1 ∨ 256 < b) with g | g | g | g
  · have := vand_11 a.toNat (by omega) (by omega) b.toNat (by omega) (by omega) w
    rw [Int.toNat_of_nonneg (by omega : 0 ≤ a), Int.toNat_of_nonneg (by omega : 0 ≤ b)] at this
    exact this
  · have := vand_12 a.toNat (by omega) (by omega) b g.1 g.2 w
    rw [Int.toNat_of_nonneg (by omega : 0 ≤ a)] at this
    exact this
  · have := vand_13 a.toNat (by omega) (by omega) b g w
    rw [Int.toNat_of_nonneg (by omega : 0 ≤ a)] at this
    exact this
  · have := vand_14 a.toNat (by omega) (by omega) b g w
    rw [Int.toNat_of_nonneg (by omega : 0 ≤ a)] at this
    exact this
  · have := vand_21 a h.1 h.2 b.toNat (by omega) (by omega) w
    rw [Int.toNat_of_nonneg (by omega : 0 ≤ b)] at this
    exact this
  · exact vand_22 a h.1 h.2 b g.1 g.2 w
  · exact vand_23 a h.1 h.2 b g w
  · exact vand_24 a h.1 h.2 b g w
  · have := vand_31 a h b.toNat (by omega) (by omega) w
    rw [Int.toNat_of_nonneg (by omega : 0 ≤ b)] at this
    exact this
  · exact vand_32 a h b g.1 g.2 w
  · exact vand_33 a h b g w
  · exact vand_34 a h b g w
  · have := vand_41 a h b.toNat (by omega) (by omega) w
    rw [Int.toNat_of_nonneg (by omega : 0 ≤ b)] at this
    exact this
  · exact vand_42 a h b g.1 g.2 w
  · exact vand_43 a h b g w
  · exact vand_44 a h b g w
end Go.Proofs.Ytddmifbgbmjdaab
