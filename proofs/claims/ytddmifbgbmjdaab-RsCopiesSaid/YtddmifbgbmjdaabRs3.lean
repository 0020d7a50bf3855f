/- The code: Encode. -/
import Derived.Test.YtddmifbgbmjdaabRs2
set_option linter.unusedVariables false
set_option linter.unusedSimpArgs false
namespace Go.Proofs.Ytddmifbgbmjdaab
open Go.RowKit

theorem encode_range (m : Int) (vs : Value) (M : List (List UInt8)) (P : Nat → Prop) (w : World) (hm : -9223372036854775808 ≤ m ∧ m ≤ 9223372036854775807) (hs : MatR P w vs M) (h : mayB (M.length : Int) m = false) :
    Calls Try.prog 33 #[.int .i64 m, vs] w fun e w' => e = .returned (.tuple #[.slice none 0 0, .int .i64 3]) ∧ w = w' := by
  obtain ⟨A, c, rfl, -, -⟩ := hs.shape
  have H := Lib.hid h
  have Hm := Lib.hid hm
  clear h hm hs
  go_enter Try.func33, Try.ntmps33
  go_wp2_with fail
  refine (code_bad _ m _ Hm.out H.out).mono ?_
  rintro e w1 ⟨rfl, rfl⟩
  go_wp2_with fail
  go_ret2
  exact ⟨rfl, rfl⟩
theorem encode_form (m : Nat) (vs : Value) (M : List (List UInt8)) (P : Nat → Prop) (w : World) (hs : MatR P w vs M) (h1 : 1 ≤ M.length) (h2 : M.length + m ≤ 255) (he : evenB M = false) :
    Calls Try.prog 33 #[.int .i64 (m : Int), vs] w fun e w' => e = .returned (.tuple #[.slice none 0 0, .int .i64 2]) ∧ Below w.heap.size w w' := by
  have HS := Lib.hid hs
  obtain ⟨A, c, rfl, -, -⟩ := hs.shape
  have H := Lib.hid he
  clear he hs
  go_enter Try.func33, Try.ntmps33
  go_wp2_with fail
  refine (code_calls M.length m h1 h2 _).mono ?_
  rintro e w1 ⟨v, rv, C, rfl, hC, ho, hb1⟩
  have HS1 := Lib.hid (HS.out.below hb1)
  have HB1 := Lib.hid hb1
  clear hC ho hb1
  go_wp2_with fail
  refine (even_calls _ M _ _ HS1.out (by omega)).mono ?_
  rintro e w2 ⟨rfl, hb2⟩
  rw [H.out]
  go_wp2_with fail
  go_ret2
  exact ⟨rfl, HB1.out.trans (hb2.mono HB1.out.size)⟩
theorem even_tab (k len : Nat) (S : Nat → Nat → UInt8) (h : 1 ≤ k) : evenB (tab k len S) = true := by
  have h0 : ((tab k len S).headD []).length = len := by
    cases k with
    | zero => omega
    | succ k => simp [tab, List.range_succ_eq_map, rowL]
  unfold evenB
  rw [h0]
  exact decide_eq_true (rect_tab _ _ _)
theorem even_form {M : List (List UInt8)} (h : evenB M = true) : M = tab M.length (M.headD []).length (mget M) := (of_decide_eq_true h : Rect M (M.headD []).length).tab
set_option maxHeartbeats 4000000 in
theorem encode_calls (m : Nat) (vs : Value) (k len : Nat) (S : Nat → Nat → UInt8) (P : Nat → Prop) (w : World) (hs : MatR P w vs (tab k len S)) (h1 : 1 ≤ k) (h2 : k + m ≤ 255) (h3 : len ≤ 1000) :
    Calls Try.prog 33 #[.int .i64 (m : Int), vs] w fun e w' => ∃ v rv, e = .returned (.tuple #[v, .int .i64 0]) ∧ OwnMat w' w.heap.size v (k + m) rv (fun pos => rowL len (fun b => atF k (fun i => S i b) (UInt8.ofNat pos))) ∧ Below w.heap.size w w' := by
  have HS : Hid (MatR (· < w.heap.size) w vs (tab k len S)) := hs.there.mono fun j hj => hj.2
  obtain ⟨A, c, rfl, -, -⟩ := hs.form
  clear hs
  go_enter Try.func33, Try.ntmps33
  go_wp2_with fail
  refine (code_calls k m h1 h2 _).mono ?_
  rintro e w1 ⟨v, rv, C, rfl, hC, ho, hb1⟩
  have HC := Lib.hid hC
  have HM1 := Lib.hid ho.matr
  have HB1 := Lib.hid hb1
  clear hC ho hb1
  obtain ⟨Ac, cc, rfl, -, -⟩ := HM1.out.form
  go_wp2_with fail
  refine (even_calls _ (tab k len S) _ _ (HS.out.fr (Fr.of_below HB1.out (fun _ => True)) (fun _ _ => trivial)) (by rw [tab_length]; omega)).mono ?_
  rintro e w2 ⟨rfl, hb2⟩
  rw [even_tab k len S h1]
  have HB2 : Hid (Below w.heap.size w w2) := HB1.out.trans (hb2.mono HB1.out.size)
  have HM2 := Lib.hid (HM1.out.below hb2)
  clear hb2 HM1 HB1
  go_wp2_with fail
  refine (made_calls _).mono ?_
  rintro e w3 ⟨rfl, ht3, hb3⟩
  have HB3 : Hid (Below w.heap.size w w3) := HB2.out.trans (hb3.mono HB2.out.size)
  have HM3 : Hid (MatR (· < w3.heap.size) w3 (.slice Ac (k + m) cc) (tab (k + m) k C)) := (HM2.out.below hb3).there.mono fun j hj => hj.2
  have HT3 := Lib.hid ht3
  have hs2 := HB2.out.size
  have hs3 := HB3.out.size
  clear ht3 hb3 HM2 HB2
  go_wp2_with fail
  go_loopw [9, 11, 30] (fun ov _ iv wr => ∃ (i : Nat) (rv : Nat → Value), i ≤ k + m ∧ iv = .int .i64 i ∧ Hid (OwnMat wr w3.heap.size ov i rv (fun pos => rowL len (fun b => atF k (fun i => S i b) (UInt8.ofNat pos)))) ∧ Hid (Below w3.heap.size w3 wr)) (fun _ _ iv _ => k + m - (intOf iv).toNat)
  case atStart => exact ⟨0, fun _ => .slice none 0 0, Nat.zero_le _, rfl, Lib.hid ((OwnMat.nil0 w3 w3.heap.size).congr _ (fun i hi => absurd hi (by omega))), Below.refl _ _⟩
  case round =>
    obtain ⟨i, rv, hi, rfl, HO, HB⟩ := hrel
    obtain ⟨Av, cv, rfl⟩ := HO.out.shape
    by_cases hlt : i < k + m
    · have hlt' : (i : Int) < ((k + m : Nat) : Int) := by omega
      have hszr := HB.out.size
      obtain ⟨ad, rvc, e, hpc, hcc, hrc⟩ := (HM3.out.fr (Fr.of_below HB.out (fun j => j < w3.heap.size)) (fun j hj => hj)).row i hlt
      subst e
      have HRc := Lib.hid hrc
      obtain ⟨Ar, cr, rfl, -, -⟩ := hrc
      rw [rowL_length] at *
      have HSr : Hid (MatR (· < w.heap.size) wr (.slice A k c) (tab k len S)) := HS.out.fr (Fr.of_below (HB3.out.trans (HB.out.mono hs3)) (fun j => j < w.heap.size)) (fun j hj => hj)
      have HTr : Hid (TabAt wr w2.heap.size) := HT3.out.below HB.out HT3.out.lt
      go_wp2_with fail
      refine (combine_calls w2.heap.size _ _ k len (C i) S _ _ _ HTr.out HRc.out HSr.out h1 (by omega) h3).mono ?_
      rintro e w5 ⟨nv, rfl, ho5, hb5⟩
      have HO5 : Hid (OwnB w5 wr.heap.size 5 nv (rowL len (fun b => atF k (fun i => S i b) (UInt8.ofNat i)))) := by
        rw [show rowL len (fun b => atF k (fun i => S i b) (UInt8.ofNat i)) = rowL len (fun b => gsum k fun j => gmul (C i j) (S j b)) from rowL_congr _ _ _ fun b _ => (HC.out.at_ (by omega) i hlt _).symm]
        exact ho5
      have HB5 := Lib.hid hb5
      obtain ⟨An, nn, cn, rfl⟩ := ho5.shape
      clear ho5 hb5 hcc
      go_wp2_with (at_builtin; refine wpList_append_row w3.heap.size _ _ rfl (.slice Av i cv) (.slice An nn cn) i rv (fun pos => rowL len (fun b => atF k (fun i => S i b) (UInt8.ofNat pos))) (rowL len (fun b => atF k (fun i => S i b) (UInt8.ofNat i))) ?d1 ?d2 ?d3 ⟨_, _, _, rfl⟩ _ rfl rfl rfl ?d4 (by omega) rfl ?_)
      case d1 => exact HO.out.keep_below HB5.out
      case d2 => exact Own.lower HO5.out hszr
      case d3 => exact fun j hj b hb e => by have := (HO.out.rows.lt j hj b hb).2; have := (HO5.out.base_le b e).1; omega
      case d4 => have := HB5.out.size; omega
      intro v1 w6 ho6 hf6
      have HO6 := Lib.hid (ho6.congr (fun pos => rowL len (fun b => atF k (fun i => S i b) (UInt8.ofNat pos))) (fun j _ => by by_cases e : j = i <;> simp [e]))
      have HB6 : Hid (Below w3.heap.size w3 w6) := Fr.after (HB.out.trans (HB5.out.mono hszr)) hf6 (fun j hj e => by have := HO.out.top_ge j e; omega)
      clear ho6 hf6
      go_wp2_with fail
      go_roundw
      case rel => exact ⟨i + 1, _, by omega, by go_num, HO6, HB6⟩
      case measure => simp [intOf]; omega
    · obtain rfl : i = k + m := by omega
      go_wp2_with fail
      go_ret2
      exact ⟨_, rv, rfl, ⟨HO.out.top.lower hs3, HO.out.rows.lower hs3⟩, HB3.out.trans (HB.out.mono hs3)⟩
end Go.Proofs.Ytddmifbgbmjdaab
