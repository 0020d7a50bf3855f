/- RsCopies, walked. -/
import Derived.Test.YtddmifbgbmjdaabCut3
set_option linter.unusedVariables false
set_option linter.unusedSimpArgs false
namespace Go.Proofs.Ytddmifbgbmjdaab
open Go.RowKit

theorem cut3_length (mo : Nat) (M : List (List UInt8)) : (cut3 mo M).length ≤ mo := by unfold cut3; simp; omega
theorem cut3_row {mo : Nat} {M : List (List UInt8)} {x : List UInt8} (h : x ∈ cut3 mo M) : x.length ≤ 20 := by
  obtain ⟨y, _, rfl⟩ := List.mem_map.1 h
  simp; omega
theorem cut3_head (mo : Nat) (M : List (List UInt8)) : ((cut3 mo M).headD []).length ≤ 20 := by
  cases h : cut3 mo M with
  | nil => simp
  | cons a l => exact cut3_row (mo := mo) (M := M) (by rw [h]; exact List.mem_cons_self)

set_option maxHeartbeats 8000000 in
set_option maxRecDepth 100000 in
theorem rs_copies (va : Value) (M : List (List UInt8)) (mm : UInt8) (w : World) (ha : MatR (· < w.heap.size) w va M) :
    Calls Try.prog 12 #[va, .int .u8 (mm.toNat : Int)] w fun e w' => e = .returned (.bool true) ∧ Below w.heap.size w w' := by
  have HA0 := Lib.hid ha
  obtain ⟨AA, cpa, rfl, -, -⟩ := ha.shape
  clear ha
  obtain ⟨n, hn⟩ : ∃ n, n = mm.toNat % 9 := ⟨_, rfl⟩
  have hn9 : n ≤ 8 := by omega
  go_enter Try.func12, Try.ntmps12
  go_wp2_with fail
  refine (cut3_calls 6 (by omega) _ M _ _ HA0.out).mono ?_
  rintro e w1 ⟨x, rfl, hx, hb1⟩
  have HW1 := Lib.hid hb1
  have HX1 := Lib.hid hx
  have hl6 : (cut3 6 M).length ≤ 6 := cut3_length 6 M
  have Hh20 := Lib.hid (cut3_head 6 M)
  clear hb1 hx HA0
  generalize cut3 6 M = T at *
  obtain ⟨Ax, cx, rfl, -, -⟩ := HX1.out.shape
  go_wp2_with fail
  have e : ((mm.toNat : Int) % 9 : Int) = (n : Int) := by omega
  rw [e]
  clear e hn
  by_cases h0 : T.length = 0
  · have HT0 := Lib.hid h0
    refine (encode_range n _ T _ _ (by omega) HX1.out (by rw [h0]; exact decide_eq_false (by omega))).mono ?_
    rintro e w2 ⟨rfl, rfl⟩
    rw [h0]
    clear h0
    go_wp2_with fail
    refine (awake03_calls _).mono ?_
    rintro e w3 ⟨rfl, hb3⟩
    have HW3 : Hid (Below w.heap.size w w3) := HW1.out.trans (hb3.mono HW1.out.size)
    clear hb3
    go_wp2_with fail
    go_ret
    exact ⟨rfl, HW3.out⟩
  · have h1 : 1 ≤ T.length := by omega
    clear h0
    cases hev : evenB T
    · have HE := Lib.hid hev
      refine (encode_form n _ T _ _ HX1.out h1 (by omega) hev).mono ?_
      rintro e w2 ⟨rfl, hb2⟩
      have HW2 : Hid (Below w.heap.size w w2) := HW1.out.trans (hb2.mono HW1.out.size)
      have HX2 := Lib.hid (HX1.out.below hb2)
      clear hb2 hev HX1
      have hne : ((T.length : Int) == 0) = false := by rw [beq_eq_false_iff_ne]; omega
      go_wp2_with fail
      refine (awake03_calls _).mono ?_
      rintro e w3 ⟨rfl, hb3⟩
      have HW3 : Hid (Below w.heap.size w w3) := HW2.out.trans (hb3.mono HW2.out.size)
      have HX3 := Lib.hid (HX2.out.below hb3)
      clear hb3 HX2
      go_wp2_with fail
      refine (even3_calls _ T _ _ HX3.out).mono ?_
      rintro e w4 ⟨rfl, n4, rfl⟩
      rw [HE.out]
      go_wp2_with fail
      go_ret
      exact ⟨rfl, below_drewN HW3.out n4⟩
    · obtain ⟨k, hk⟩ : ∃ k, k = T.length := ⟨_, rfl⟩
      obtain ⟨len, hlen⟩ : ∃ len, len = (T.headD []).length := ⟨_, rfl⟩
      have eT := even_form hev
      rw [← hk, ← hlen] at eT
      have hl20 : len ≤ 20 := by have := Hh20.out; omega
      clear hev hlen Hh20
      generalize mget T = S at eT
      subst eT
      clear hk
      rw [tab_length] at HX1 hl6 h1 ⊢
      refine (encode_calls n _ k len S _ _ HX1.out h1 (by omega) (by omega)).mono ?_
      rintro e w2 ⟨v, rv, rfl, ho, hb2⟩
      have HW2 : Hid (Below w.heap.size w w2) := HW1.out.trans (hb2.mono HW1.out.size)
      have HX2 := Lib.hid (HX1.out.below hb2)
      have HM2 := Lib.hid ho
      obtain ⟨Av, cv, rfl⟩ := ho.shape
      clear ho hb2 HX1 HW1
      go_wp2_with fail
      have hkN : k ≤ k + n := by omega
      have hN14 : k + n ≤ 14 := by omega
      generalize k + n = N at *
      go_loopw [8] (fun iv wr => ∃ j d : Nat, j ≤ N ∧ iv = .int .i64 j ∧ wr = w2.drewN d) (fun iv _ => N - (intOf iv).toNat)
      case atStart => exact ⟨0, 0, Nat.zero_le _, rfl, rfl⟩
      case round =>
        obtain ⟨j, d, hj, rfl, rfl⟩ := hrel
        by_cases hlt : j < N
        · have hlt' : (j : Int) < (N : Int) := by omega
          obtain ⟨ad, rv1, rfl, -, hcell, hb⟩ := HM2.out.matr.row j hlt
          obtain ⟨ax, rv0, rfl, -, hcell0, hb0⟩ := HX2.out.row 0 (by omega)
          rw [add_zero] at hcell0
          have k1 := fun q => conv_str (w := w2.drewN q) (P := fun _ => True) (v := rv1) (l := rowL len (fun b => atF k (fun i => S i b) (UInt8.ofNat j))) (hb.mono fun _ _ => trivial)
          have k0 := fun q => conv_str (w := w2.drewN q) (P := fun _ => True) (v := rv0) (l := rowL len (S 0)) (hb0.mono fun _ _ => trivial)
          obtain ⟨A1, c1, rfl, -, -⟩ := hb
          obtain ⟨A0, c0, rfl, -, -⟩ := hb0
          by_cases hjk : j < k
          · have hjk' : decide (j < k) = true := decide_eq_true hjk
            have hrow : rowL len (fun b => atF k (fun i => S i b) (UInt8.ofNat j)) = rowL len (S j) := rowL_congr _ _ _ fun b _ => atF_at k (fun i => S i b) j hjk (by omega)
            obtain ⟨_, rvj, e, -, hcellj, hbj⟩ := HX2.out.row j hjk
            cases e
            have kj := fun q => conv_str (w := w2.drewN q) (P := fun _ => True) (v := rvj) (l := rowL len (S j)) (hbj.mono fun _ _ => trivial)
            obtain ⟨Aj, cj, rfl, -, -⟩ := hbj
            rw [hrow] at k1
            rw [rowL_length] at *
            by_cases hk1 : k = 1
            · subst hk1
              obtain rfl : j = 0 := by omega
              generalize rowL len (S 0) = t0 at *
              clear hrow
              have hj0 : (0 : Nat) < N := by omega
              rw [add_zero] at hcell hcellj
              go_wp2_with fail
              go_quiet (fail)
              go_wp2_with fail
              go_roundw
              case rel => exact ⟨1, _, by omega, by go_num, rfl⟩
              case measure => simp [intOf]; omega
            · have hk1' : ((k : Int) == 1) = false := by rw [beq_eq_false_iff_ne]; omega
              generalize rowL len (S j) = t1 at *
              clear hrow
              go_wp2_with fail
              go_quiet (fail)
              go_wp2_with fail
              go_roundw
              case rel => exact ⟨j + 1, _, by omega, by go_num, rfl⟩
              case measure => simp [intOf]; omega
          · have hjk' : decide (j < k) = false := decide_eq_false hjk
            rw [rowL_length] at *
            by_cases hk1 : k = 1
            · subst hk1
              have hjk2 : decide ((j : Int) < 1) = false := decide_eq_false (by omega)
              have hrow : rowL len (fun b => atF 1 (fun i => S i b) (UInt8.ofNat j)) = rowL len (S 0) := rowL_congr _ _ _ fun b _ => atF_one (fun i => S i b) _
              rw [hrow] at k1
              generalize rowL len (S 0) = t0 at *
              clear hrow
              go_wp2_with fail
              go_quiet (fail)
              go_wp2_with fail
              go_roundw
              case rel => exact ⟨j + 1, _, by omega, by go_num, rfl⟩
              case measure => simp [intOf]; omega
            · have hk1' : ((k : Int) == 1) = false := by rw [beq_eq_false_iff_ne]; omega
              generalize rowL len (fun b => atF k (fun i => S i b) (UInt8.ofNat j)) = t1 at *
              go_wp2_with fail
              go_quiet (fail)
              go_wp2_with fail
              go_roundw
              case rel => exact ⟨j + 1, _, by omega, by go_num, rfl⟩
              case measure => simp [intOf]; omega
        · obtain rfl : j = N := by omega
          go_wp2_with fail
          refine (awake03_calls _).mono ?_
          rintro e w3 ⟨rfl, hb3⟩
          go_wp2_with fail
          go_ret
          exact ⟨rfl, (below_drewN HW2.out d).trans (hb3.mono (below_drewN HW2.out d).size)⟩
end Go.Proofs.Ytddmifbgbmjdaab
