/- The walks of gf's exported functions, and of the reference's. -/
import Derived.Test.YtddmifbgbmjdaaaGf
import Derived.Test.YtddmifbgbmjdaaaGfRef
set_option linter.unusedVariables false
set_option linter.unusedSimpArgs false
namespace Go.Proofs.Ytddmifbgbmjdaaa
open Go.RowKit

theorem times8 (a b : UInt8) (w : World) :
    Calls Try.prog 35 #[.int .u8 (a.toNat : Int), .int .u8 (b.toNat : Int)] w fun e w' => e = .returned (.int .u8 ((gmul a b).toNat : Int)) ∧ w = w' := by
  rw [gmul_toNat]
  exact times_calls _ _ a.toNat_lt b.toNat_lt w
set_option maxHeartbeats 400000 in
theorem mul8 (a b : UInt8) (w : World) :
    Calls Try.prog 22 #[.int .u8 (a.toNat : Int), .int .u8 (b.toNat : Int)] w fun e w' => e = .returned (.int .u8 ((gmul a b).toNat : Int)) ∧ w = w' := by
  go_enter Try.func22, Try.ntmps22
  go_wp2_with fail
  refine (times8 a b _).mono ?_
  rintro e w' ⟨rfl, rfl⟩
  go_wp2_with fail
  go_ret
  exact ⟨rfl, rfl⟩
set_option maxHeartbeats 400000 in
theorem add8 (a b : UInt8) (w : World) :
    Calls Try.prog 21 #[.int .u8 (a.toNat : Int), .int .u8 (b.toNat : Int)] w fun e w' => e = .returned (.int .u8 ((a ^^^ b).toNat : Int)) ∧ w = w' := by
  have hx : bits .xor .u8 (a.toNat : Int) (b.toNat : Int) = ((a ^^^ b).toNat : Int) := by rw [UInt8.toNat_xor]; exact u8_xor_nat _ _ a.toNat_lt b.toNat_lt
  have Hx := Lib.hid hx
  clear hx
  go_enter Try.func21, Try.ntmps21
  go_wp2_with fail
  go_ret
  exact ⟨by rw [← Hx.out]; rfl, rfl⟩
theorem pow_even (o e : UInt8) (m : Nat) (h : m % 2 = 0) : gmul o (gpow e m) = gmul o (gpow (gmul e e) (m / 2)) := by
  have : m = 2 * (m / 2) := by omega
  rw [show gmul e e = gpow e 2 from by rw [gpow, gpow_one], ← gpow_mul, ← this]
theorem pow_odd (o e : UInt8) (m : Nat) (h : m % 2 = 1) : gmul o (gpow e m) = gmul (gmul o e) (gpow (gmul e e) (m / 2)) := by
  have : m = 1 + 2 * (m / 2) := by omega
  have h1 : gpow e m = gmul e (gpow e (2 * (m / 2))) := by
    have h2 := gpow_add e 1 (2 * (m / 2))
    rw [gpow_one, ← this] at h2
    exact h2
  rw [h1, ← gmul_assoc, gpow_mul, show gpow e 2 = gmul e e from by rw [gpow, gpow_one]]
set_option maxHeartbeats 1000000 in
theorem power8 (a : UInt8) (N : Nat) (hN : N ≤ 1000000) (w : World) :
    Calls Try.prog 36 #[.int .u8 (a.toNat : Int), .int .i64 (N : Int)] w fun e w' => e = .returned (.int .u8 ((gpow a N).toNat : Int)) ∧ w = w' := by
  go_enter Try.func36, Try.ntmps36
  go_wp2_with fail
  go_loop [0, 1, 5] (fun x y z => ∃ (m : Nat) (e o : UInt8), m ≤ N ∧ x = .int .u8 (e.toNat : Int) ∧ y = .int .i64 (m : Int) ∧ z = .int .u8 (o.toNat : Int) ∧ Hid (gmul o (gpow e m) = gpow a N)) (fun _ y _ => (intOf y).toNat)
  case atStart => exact ⟨N, a, 1, Nat.le_refl _, rfl, rfl, rfl, one_gmul _⟩
  case round =>
    obtain ⟨m, e, o, hm, rfl, rfl, rfl, H⟩ := hrel
    by_cases h0 : m = 0
    · subst h0
      have H2 : Hid (gpow a N = o) := by rw [← H.out]; exact gmul_one o
      go_wp2_with fail
      go_ret
      exact ⟨by rw [H2.out]; rfl, rfl⟩
    · have ha1 : bits .and .i64 (m : Int) 1 = ((m % 2 : Nat) : Int) := by
        rw [show (1 : Int) = ((1 : Nat) : Int) from rfl, i64_and_small _ _ (by omega) (by omega), nat_mask1]
      have hpos : 0 < m := by omega
      have Hc : Hid ((m : Int) / 2 = ((m / 2 : Nat) : Int)) := by unfold Hid; omega
      by_cases hb : m % 2 = 1
      · have hb1 : (bits .and .i64 (m : Int) 1 == 1) = true := by rw [ha1, hb]; rfl
        have H2 : Hid (gmul (gmul o e) (gpow (gmul e e) (m / 2)) = gpow a N) := by rw [← H.out]; exact (pow_odd o e m hb).symm
        clear ha1 hb h0
        go_wp2_with fail
        refine (times8 o e _).mono ?_
        rintro en w' ⟨rfl, rfl⟩
        go_wp2_with fail
        refine (times8 e e _).mono ?_
        rintro en w' ⟨rfl, rfl⟩
        go_wp2_with fail
        go_round
        case rel => exact ⟨m / 2, _, _, by omega, rfl, by rw [Hc.out], rfl, H2⟩
        case measure => simp [intOf]; omega
      · have hb1 : (bits .and .i64 (m : Int) 1 == 1) = false := by rw [ha1, beq_eq_false_iff_ne]; omega
        have H2 : Hid (gmul o (gpow (gmul e e) (m / 2)) = gpow a N) := by rw [← H.out]; exact (pow_even o e m (by omega)).symm
        clear ha1 hb h0
        go_wp2_with fail
        refine (times8 e e _).mono ?_
        rintro en w' ⟨rfl, rfl⟩
        go_wp2_with fail
        go_round
        case rel => exact ⟨m / 2, _, _, by omega, rfl, by rw [Hc.out], rfl, H2⟩
        case measure => simp [intOf]; omega
theorem u8_zero (a : UInt8) : ((a.toNat : Int) == 0) = decide (a = 0) := by
  by_cases h : a = 0
  · subst h; rfl
  · rw [decide_eq_false h, beq_eq_false_iff_ne]
    intro e
    exact h (u8_ext (by simpa using e))
set_option maxHeartbeats 400000 in
theorem inv8 (a : UInt8) (w : World) :
    Calls Try.prog 29 #[.int .u8 (a.toNat : Int)] w fun e w' => e = .returned (.int .u8 ((ginv a).toNat : Int)) ∧ w = w' := by
  by_cases h : a = 0
  · subst h
    have H : Hid (ginv 0 = 0) := ginv_zero
    go_enter Try.func29, Try.ntmps29
    go_wp2_with fail
    go_ret
    exact ⟨by rw [H.out]; rfl, rfl⟩
  · have h1 : ((a.toNat : Int) == 0) = false := by rw [u8_zero, decide_eq_false h]
    clear h
    go_enter Try.func29, Try.ntmps29
    go_wp2_with fail
    refine (power8 a 254 (by omega) _).mono ?_
    rintro en w' ⟨rfl, rfl⟩
    go_wp2_with fail
    go_ret
    exact ⟨rfl, rfl⟩
theorem pow_mod (n : Int) : ∃ m : Nat, m < 255 ∧ (n % 255) = (m : Int) ∧ (wrap64 (n.tmod 255 + 255)).tmod 255 = (m : Int) := by
  refine ⟨(n % 255).toNat, by omega, by omega, ?_⟩
  have h1 := Int.tmod_eq_emod (a := n) (b := 255)
  have hnn : 0 ≤ n.tmod 255 + 255 := by
    rw [h1]
    split <;> simp <;> omega
  have hlt : n.tmod 255 + 255 < 1000 := by
    rw [h1]
    split <;> simp <;> omega
  rw [show wrap64 (n.tmod 255 + 255) = n.tmod 255 + 255 from by unfold wrap64; omega, Int.tmod_eq_emod_of_nonneg hnn, h1]
  split <;> simp <;> omega
set_option maxHeartbeats 400000 in
theorem pow8 (n : Int) (hn : -9223372036854775808 ≤ n ∧ n ≤ 9223372036854775807) (w : World) :
    Calls Try.prog 26 #[.int .i64 n] w fun e w' => e = .returned (.int .u8 ((gpow 2 (n % 255).toNat).toNat : Int)) ∧ w = w' := by
  obtain ⟨m, hm, hm1, hm2⟩ := pow_mod n
  rw [hm1, Int.toNat_natCast]
  have Hm := Lib.hid hm2
  clear hm1 hm2
  go_enter Try.func26, Try.ntmps26
  go_wp2_with fail
  rw [Hm.out]
  refine (power8 2 m (by omega) _).mono ?_
  rintro en w' ⟨rfl, rfl⟩
  go_wp2_with fail
  go_ret
  exact ⟨rfl, rfl⟩
/-- What Log tells. -/
noncomputable def logI (a : UInt8) : Int × Bool := if a = 0 then (0, false) else ((glog a : Int), true)
set_option maxHeartbeats 1000000 in
set_option maxRecDepth 10000 in
theorem log8 (a : UInt8) (w : World) :
    Calls Try.prog 25 #[.int .u8 (a.toNat : Int)] w fun e w' => e = .returned (.tuple #[.int .i64 (logI a).1, .bool (logI a).2]) ∧ w = w' := by
  go_enter Try.func25, Try.ntmps25
  go_wp2_with fail
  go_loop [4, 6] (fun x i => ∃ n : Nat, n ≤ 255 ∧ i = .int .i64 n ∧ x = .int .u8 ((expN n : Nat) : Int) ∧ Hid (∀ j, j < n → expN j ≠ a.toNat)) (fun _ i => 255 - (intOf i).toNat)
  case atStart => exact ⟨0, by omega, rfl, rfl, fun j hj => absurd hj (by omega)⟩
  case round =>
    obtain ⟨n, hn, rfl, rfl, H⟩ := hrel
    by_cases hlt : n < 255
    · have hl := expN_lt n
      by_cases he : expN n = a.toNat
      · have h1 : (((expN n : Nat) : Int) == (a.toNat : Int)) = true := by rw [he]; simp
        have Hr : Hid (logI a = ((n : Int), true)) := by
          have ha : a ≠ 0 := fun e => exp_ne n (by rw [he, e]; rfl)
          unfold logI Hid
          rw [if_neg ha, glog_of hlt he]
        clear he
        go_wp2_with fail
        go_ret2
        exact ⟨by rw [Hr.out]; rfl, rfl⟩
      · have h1 : (((expN n : Nat) : Int) == (a.toNat : Int)) = false := by rw [beq_eq_false_iff_ne]; omega
        have H2 : Hid (∀ j, j < n + 1 → expN j ≠ a.toNat) := fun j hj => by
          by_cases e : j = n
          · subst e; exact he
          · exact H.out j (by omega)
        have Hs : Hid (expN (n + 1) = xtN (expN n)) := rfl
        clear he
        go_wp2_with fail
        refine (twice_calls _ hl _).mono ?_
        rintro en w' ⟨rfl, rfl⟩
        go_wp2_with fail
        go_round
        case rel => exact ⟨n + 1, by omega, by go_num, by rw [Hs.out], H2⟩
        case measure => simp [intOf]; omega
    · obtain rfl : n = 255 := by omega
      have Hr : Hid (logI a = (0, false)) := by
        have ha : a = 0 := by
          by_cases h : a = 0
          · exact h
          · obtain ⟨m, hm, e⟩ := exp_some a h
            exact absurd e (H.out m hm)
        unfold logI Hid
        rw [if_pos ha]
      go_wp2_with fail
      go_ret2
      exact ⟨by rw [Hr.out]; rfl, rfl⟩
/-- The value of a polynomial at a place: Horner's rule. -/
def geval (x : UInt8) : List UInt8 → UInt8
  | [] => 0
  | c :: l => gmul (geval x l) x ^^^ c
set_option maxHeartbeats 1000000 in
theorem eval8 (v : Value) (l : List UInt8) (x : UInt8) (P : Nat → Prop) (w : World) (hv : Bytes P w v l) (hlen : l.length ≤ 1000000) :
    Calls Try.prog 28 #[v, .int .u8 (x.toNat : Int)] w fun e w' => e = .returned (.int .u8 ((geval x l).toNat : Int)) ∧ Drawn w w' := by
  obtain ⟨A, cp, rfl, hl, hc⟩ := hv
  go_enter Try.func28, Try.ntmps28
  go_wp2_with fail
  go_loopw [5, 6] (fun o i wr => ∃ k : Nat, k ≤ l.length ∧ i = .int .i64 ((k : Int) - 1) ∧ o = .int .u8 ((geval x (l.drop k)).toNat : Int) ∧ Drawn w wr) (fun _ i _ => (intOf i + 1).toNat)
  case atStart => exact ⟨l.length, Nat.le_refl _, rfl, by rw [List.drop_length]; rfl, Drawn.refl w⟩
  case round =>
    obtain ⟨k, hk, rfl, rfl, D⟩ := hrel
    by_cases h0 : k = 0
    · subst h0
      have hd : ¬ (0 : Int) ≤ ((0 : Nat) : Int) - 1 := by omega
      go_wp2_with fail
      go_ret
      exact ⟨rfl, D⟩
    · obtain ⟨k, rfl⟩ : ∃ j, k = j + 1 := ⟨k - 1, by omega⟩
      obtain ⟨ad, rfl, hb, hcell0⟩ := rd_at hc k (by omega)
      have hcell := (D.cell _).trans hcell0
      clear hcell0
      have Hs : Hid (geval x (l.drop k) = gmul (geval x (l.drop (k + 1))) x ^^^ l[k]'(by omega)) := by
        rw [List.drop_eq_getElem_cons (by omega)]; rfl
      generalize geval x (l.drop (k + 1)) = g at *
      generalize l[k]'(by omega) = b at *
      rw [show ((k + 1 : Nat) : Int) - 1 = (k : Int) from by omega]
      have hkl : (k : Int) < (l.length : Int) := by omega
      clear hc h0
      go_wp2_with fail
      go_quiet (first | (go_at_call 22; exact Calls.quiet_of_same ((mul8 g x _).mono fun _ _ h => ⟨h.1, h.2.symm⟩)) | (go_at_call 21; exact Calls.quiet_of_same ((add8 (gmul g x) b _).mono fun _ _ h => ⟨h.1, h.2.symm⟩)))
      go_wp2_with fail
      go_roundw
      case rel => exact ⟨k, by omega, by go_num, by rw [Hs.out], D.next _⟩
      case measure => simp [intOf]
end Go.Proofs.Ytddmifbgbmjdaaa
