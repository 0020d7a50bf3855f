/- The walk of the solver's column. -/
import Derived.Test.YtddmifbgbmjdaabMat6
import Derived.StillTailTactics
set_option linter.unusedVariables false
set_option linter.unusedSimpArgs false
namespace Go.Proofs.Ytddmifbgbmjdaab
open Go.RowKit

/-- So many rows have been gone through. -/
def upF (n k : Nat) (y : Nat → UInt8) (F : Nat → Nat → UInt8) : Nat → Nat → UInt8 := fun r => if r < k then addF n y F r else F r
theorem upF_n (n k : Nat) (y : Nat → UInt8) (F : Nat → Nat → UInt8) : upF n k y F n = F n := by unfold upF addF; split <;> simp
theorem upF_k (n k : Nat) (y : Nat → UInt8) (F : Nat → Nat → UInt8) : upF n k y F k = F k := by unfold upF; rw [if_neg (Nat.lt_irrefl k)]
theorem upF_zero (n : Nat) (y : Nat → UInt8) (F : Nat → Nat → UInt8) (i j : Nat) : upF n 0 y F i j = F i j := by unfold upF; simp
theorem upF_skip_n (n : Nat) (y : Nat → UInt8) (F : Nat → Nat → UInt8) (i j : Nat) : upF n n y F i j = upF n (n + 1) y F i j := by
  unfold upF
  by_cases h : i < n
  · rw [if_pos h, if_pos (by omega)]
  · rw [if_neg h]
    by_cases e : i = n
    · subst e; rw [if_pos (by omega)]; simp [addF]
    · rw [if_neg (by omega)]
theorem upF_skip_0 (n k : Nat) (y : Nat → UInt8) (F : Nat → Nat → UInt8) (h0 : y k = 0) (i j : Nat) : upF n k y F i j = upF n (k + 1) y F i j := by
  unfold upF
  by_cases h : i < k
  · rw [if_pos h, if_pos (by omega)]
  · rw [if_neg h]
    by_cases e : i = k
    · subst e
      rw [if_pos (by omega)]
      unfold addF
      split
      · rename_i h1; rw [h1]
      · show F i j = F i j ^^^ gmul (y i) (F n j)
        rw [h0, zero_gmul, UInt8.xor_zero]
    · rw [if_neg (by omega)]
theorem upF_step (n k : Nat) (y : Nat → UInt8) (F : Nat → Nat → UInt8) (hne : k ≠ n) (i j : Nat) : (if i = k then (fun j => F k j ^^^ gmul (y k) (F n j)) else upF n k y F i) j = upF n (k + 1) y F i j := by
  unfold upF
  by_cases e : i = k
  · subst e
    rw [if_pos rfl, if_pos (by omega)]
    unfold addF
    rw [if_neg hne]
  · rw [if_neg e]
    by_cases h : i < k
    · rw [if_pos h, if_pos (by omega)]
    · rw [if_neg h, if_neg (by omega)]
theorem upF_all (n N : Nat) (y : Nat → UInt8) (F : Nat → Nat → UInt8) (i j : Nat) (hi : i < N) : upF n N y F i j = addF n y F i j := by unfold upF; rw [if_pos hi]
theorem scale_upd (n : Nat) (c : UInt8) (F : Nat → Nat → UInt8) (i j : Nat) : (if i = n then (fun k => gmul c (F n k)) else F i) j = scaleF n c F i j := by unfold scaleF; split <;> rfl

set_option maxHeartbeats 4000000 in
theorem column_calls (w : World) (base s tg gm cm go co N : Nat) (rm ro : Nat → Value) (Fm Fo : Nat → Nat → UInt8) (HS : Slv w base s tg gm cm go co N rm ro Fm Fo) (hN : N ≤ 1000) (n : Nat) (hn : n < N) :
    Calls Try.prog 48 #[.pointer (some ⟨s, 0, none⟩), .int .i64 (n : Int)] w fun e w' =>
      e = .returned (.tuple #[]) ∧ Slv w' base s tg gm cm go co N rm ro (addF n (fun i => scaleF n (ginv (Fm n n)) Fm i n) (scaleF n (ginv (Fm n n)) Fm)) (addF n (fun i => scaleF n (ginv (Fm n n)) Fm i n) (scaleF n (ginv (Fm n n)) Fo)) ∧ Fr (· < base) w w' := by
  have HS1 := Lib.hid HS
  have b0 := HS.blk.cell 0
  have b1 := HS.blk.cell 1
  have b2 := HS.blk.cell 2
  simp at b0 b1 b2
  obtain ⟨m1, -⟩ := HS.atM n hn
  obtain ⟨o1, -⟩ := HS.atO n hn
  obtain ⟨g1, c1, e1, hg1, -, -⟩ := own_form (HS.rowM n hn) (by omega)
  obtain ⟨g3, c3, e3, hg3, -, -⟩ := own_form (HS.rowO n hn) (by omega)
  obtain ⟨mm1, -⟩ := own_at (e1 ▸ HS.rowM n hn) n hn
  rw [e1] at m1
  rw [e3] at o1
  have E1 := Lib.hid e1
  have E3 := Lib.hid e3
  clear HS e1 e3
  have hlt' : (n : Int) < (N : Int) := by omega
  obtain ⟨c, hc⟩ : ∃ c, ginv (Fm n n) = c := ⟨_, rfl⟩
  rw [hc]
  have Hc := Lib.hid hc
  clear hc
  generalize hG : scaleF n c Fm = Gm
  generalize hGo : scaleF n c Fo = Go
  have HG := Lib.hid hG
  have HGo := Lib.hid hGo
  clear hG hGo
  go_enter Try.func48, Try.ntmps48
  go_wp2_with fail
  go_still_tail 14, (by kernel_rfl)
  change wpList _ _ _ _ _ w.drew
  have HS2 : Hid (Slv w.drew base s tg gm cm go co N rm ro Fm Fo) := HS1.out.below (Below.refl _ _).drew
  have HF2 : Hid (Fr (· < base) w w.drew) := (Fr.refl _ _).drew
  clear b0 b1 b2 m1 o1 mm1
  generalize w.drew = w2 at *
  go_wp2_with fail
  refine (tinv8 tg _ _ HS2.out.tab).mono ?_
  rintro e w3 ⟨rfl, n3, rfl⟩
  rw [Hc.out]
  have HS3 : Hid (Slv (w2.drewN n3) base s tg gm cm go co N rm ro Fm Fo) := HS2.out.drewN n3
  have HF3 : Hid (Fr (· < base) w (w2.drewN n3)) := HF2.out.drewN n3
  clear HS2 HF2
  generalize w2.drewN n3 = w3 at *
  have b1 := HS3.out.blk.cell 1
  simp at b1
  obtain ⟨m1, -⟩ := HS3.out.atM n hn
  rw [E1.out] at m1
  go_wp2_with fail
  refine (scale_calls s tg _ _ _ N (Fm n) base c _ HS3.out.blk HS3.out.tab (by rw [← E1.out]; exact HS3.out.rowM n hn) (by omega) (by omega)).mono ?_
  rintro e w4 ⟨rfl, ho4, hf4⟩
  have HS4 : Hid (Slv w4 base s tg gm cm go co N rm ro Gm Fo) := (HS3.out.updM n hn _ (by rw [E1.out]; exact ho4) (by rw [E1.out]; exact hf4)).congr _ _ (fun i k _ _ => by rw [← HG.out]; exact scale_upd n c Fm i k) (fun _ _ _ _ => rfl)
  have HF4 : Hid (Fr (· < base) w w4) := HF3.out.trans (hf4.mono fun k _ hk e => by simp [Value.ownBlock] at e; omega)
  clear ho4 hf4 HS3 HF3 b1 m1
  have b2 := HS4.out.blk.cell 2
  simp at b2
  obtain ⟨o1, -⟩ := HS4.out.atO n hn
  rw [E3.out] at o1
  go_wp2_with fail
  refine (scale_calls s tg _ _ _ N (Fo n) base c _ HS4.out.blk HS4.out.tab (by rw [← E3.out]; exact HS4.out.rowO n hn) (by omega) (by omega)).mono ?_
  rintro e w5 ⟨rfl, ho5, hf5⟩
  have HS5 : Hid (Slv w5 base s tg gm cm go co N rm ro Gm Go) := (HS4.out.updO n hn _ (by rw [E3.out]; exact ho5) (by rw [E3.out]; exact hf5)).congr _ _ (fun _ _ _ _ => rfl) (fun i k _ _ => by rw [← HGo.out]; exact scale_upd n c Fo i k)
  have HF5 : Hid (Fr (· < base) w w5) := HF4.out.trans (hf5.mono fun k _ hk e => by simp [Value.ownBlock] at e; omega)
  clear ho5 hf5 HS4 HF4 b2 o1
  have b1 := HS5.out.blk.cell 1
  simp at b1
  go_wp2_with fail
  clear b1
  go_loopw [5, 6, 47] (fun _ _ i wr => ∃ k : Nat, k ≤ N ∧ i = .int .i64 k ∧ Hid (Slv wr base s tg gm cm go co N rm ro (upF n k (fun i => Gm i n) Gm) (upF n k (fun i => Gm i n) Go)) ∧ Hid (Fr (· < base) w wr)) (fun _ _ i _ => N - (intOf i).toNat)
  case atStart => exact ⟨0, Nat.zero_le _, rfl, Lib.hid (HS5.out.congr _ _ (fun i k _ _ => (upF_zero n _ Gm i k).symm) (fun i k _ _ => (upF_zero n _ Go i k).symm)), HF5⟩
  case round =>
    obtain ⟨k, hk, rfl, HS6, HF6⟩ := hrel
    clear HS5 HF5
    by_cases hlt : k < N
    · have hltk : (k : Int) < (N : Int) := by omega
      have b1 := HS6.out.blk.cell 1
      have b0 := HS6.out.blk.cell 0
      have b2 := HS6.out.blk.cell 2
      simp at b1 b0 b2
      obtain ⟨m2, -⟩ := HS6.out.atM k hlt
      obtain ⟨o2, -⟩ := HS6.out.atO k hlt
      obtain ⟨g2, c2, e2, hg2, -, -⟩ := own_form (HS6.out.rowM k hlt) (by omega)
      obtain ⟨g4, c4, e4, hg4, -, -⟩ := own_form (HS6.out.rowO k hlt) (by omega)
      obtain ⟨mm2, -⟩ := own_at (e2 ▸ HS6.out.rowM k hlt) n hn
      rw [e2] at m2
      rw [e4] at o2
      rw [upF_k] at mm2
      have E2 := Lib.hid e2
      have E4 := Lib.hid e4
      clear e2 e4
      by_cases hkn : k = n
      · have hne : ((k : Int) != (n : Int)) = false := by rw [hkn]; simp
        have HS7 : Hid (Slv wr base s tg gm cm go co N rm ro (upF n (k + 1) (fun i => Gm i n) Gm) (upF n (k + 1) (fun i => Gm i n) Go)) := by
          have := HS6.out
          rw [hkn] at this ⊢
          exact this.congr _ _ (fun i j _ _ => upF_skip_n n _ Gm i j) (fun i j _ _ => upF_skip_n n _ Go i j)
        clear hkn
        go_wp2_with fail
        go_roundw
        case rel => exact ⟨k + 1, by omega, by go_num, HS7, HF6⟩
        case measure => simp [intOf]; omega
      · have hne : ((k : Int) != (n : Int)) = true := by rw [bne_iff_ne]; omega
        by_cases hy : Gm k n = 0
        · have hy0 : (((Gm k n).toNat : Int) != 0) = false := by rw [hy]; rfl
          have HS7 : Hid (Slv wr base s tg gm cm go co N rm ro (upF n (k + 1) (fun i => Gm i n) Gm) (upF n (k + 1) (fun i => Gm i n) Go)) := HS6.out.congr _ _ (fun i j _ _ => upF_skip_0 n k _ Gm hy i j) (fun i j _ _ => upF_skip_0 n k _ Go hy i j)
          clear hy
          go_wp2_with fail
          go_roundw
          case rel => exact ⟨k + 1, by omega, by go_num, HS7, HF6⟩
          case measure => simp [intOf]; omega
        · have hy0 : (((Gm k n).toNat : Int) != 0) = true := by unfold bne; rw [u8_zero, decide_eq_false hy]; rfl
          have Hkn := Lib.hid hkn
          clear hy hkn
          obtain ⟨m1, -⟩ := HS6.out.atM n hn
          obtain ⟨o1, -⟩ := HS6.out.atO n hn
          rw [E1.out] at m1
          rw [E3.out] at o1
          have HQm : Hid (∀ j, (rm n).ownBlock = some j → some j ≠ (rm k).ownBlock) := fun j hj e => HS6.out.fam.apart (false, n) (false, k) hn hlt (fun e => Hkn.out (by simpa using e.symm)) j (by simpa using hj) (by simpa using e.symm)
          have HQo : Hid (∀ j, (ro n).ownBlock = some j → some j ≠ (ro k).ownBlock) := fun j hj e => HS6.out.fam.apart (true, n) (true, k) hn hlt (fun e => Hkn.out (by simpa using e.symm)) j (by simpa using hj) (by simpa using e.symm)
          go_wp2_with fail
          go_still_tail 19, (by kernel_rfl)
          change wpList _ _ _ _ _ wr.drew
          have HS7 : Hid (Slv wr.drew base s tg gm cm go co N rm ro (upF n k (fun i => Gm i n) Gm) (upF n k (fun i => Gm i n) Go)) := HS6.out.below (Below.refl _ _).drew
          have HF7 : Hid (Fr (· < base) w wr.drew) := HF6.out.drew
          clear b0 b1 b2 m1 m2 o1 o2 mm2
          generalize wr.drew = w7 at *
          go_wp2_with fail
          refine (line_calls tg _ _ N (Gm k) (Gm n) base (Gm k n) (fun j => (rm n).ownBlock = some j) _ HS7.out.tab (by have := HS7.out.rowM k hlt; rw [E2.out, upF_k] at this; exact this) (by have := (HS7.out.rowM n hn).reads; rw [upF_n, E1.out] at this; rw [E1.out]; exact this) (by rw [← E2.out]; exact HQm.out) (by rw [← E2.out]; exact tab_apart HS7.out.tab (HS7.out.rowM k hlt) (by decide)) (by omega)).mono ?_
          rintro e w8 ⟨rfl, ho8, hf8⟩
          have HS8 : Hid (Slv w8 base s tg gm cm go co N rm ro (upF n (k + 1) (fun i => Gm i n) Gm) (upF n k (fun i => Gm i n) Go)) := (HS7.out.updM k hlt _ (by rw [E2.out]; exact ho8) (by rw [E2.out]; exact hf8)).congr _ _ (fun i j _ _ => upF_step n k _ Gm Hkn.out i j) (fun _ _ _ _ => rfl)
          have HF8 : Hid (Fr (· < base) w w8) := HF7.out.trans (hf8.mono fun k _ hk e => by simp [Value.ownBlock] at e; omega)
          clear ho8 hf8 HS7 HF7
          have b0 := HS8.out.blk.cell 0
          have b2 := HS8.out.blk.cell 2
          simp at b0 b2
          obtain ⟨o2, -⟩ := HS8.out.atO k hlt
          obtain ⟨o1, -⟩ := HS8.out.atO n hn
          rw [E3.out] at o1
          rw [E4.out] at o2
          go_wp2_with fail
          go_still_tail 19, (by kernel_rfl)
          change wpList _ _ _ _ _ w8.drew
          have HS9 : Hid (Slv w8.drew base s tg gm cm go co N rm ro (upF n (k + 1) (fun i => Gm i n) Gm) (upF n k (fun i => Gm i n) Go)) := HS8.out.below (Below.refl _ _).drew
          have HF9 : Hid (Fr (· < base) w w8.drew) := HF8.out.drew
          clear b0 b2 o1 o2 HS8 HF8
          generalize w8.drew = w9 at *
          go_wp2_with fail
          refine (line_calls tg _ _ N (Go k) (Go n) base (Gm k n) (fun j => (ro n).ownBlock = some j) _ HS9.out.tab (by have := HS9.out.rowO k hlt; rw [E4.out, upF_k] at this; exact this) (by have := (HS9.out.rowO n hn).reads; rw [upF_n, E3.out] at this; rw [E3.out]; exact this) (by rw [← E4.out]; exact HQo.out) (by rw [← E4.out]; exact tab_apart HS9.out.tab (HS9.out.rowO k hlt) (by decide)) (by omega)).mono ?_
          rintro e w10 ⟨rfl, ho10, hf10⟩
          have HS10 : Hid (Slv w10 base s tg gm cm go co N rm ro (upF n (k + 1) (fun i => Gm i n) Gm) (upF n (k + 1) (fun i => Gm i n) Go)) := (HS9.out.updO k hlt _ (by rw [E4.out]; exact ho10) (by rw [E4.out]; exact hf10)).congr _ _ (fun _ _ _ _ => rfl) (fun i j _ _ => upF_step n k _ Go Hkn.out i j)
          have HF10 : Hid (Fr (· < base) w w10) := HF9.out.trans (hf10.mono fun k _ hk e => by simp [Value.ownBlock] at e; omega)
          clear ho10 hf10 HS9 HF9
          go_wp2_with fail
          go_roundw
          case rel => exact ⟨k + 1, by omega, by go_num, HS10, HF10⟩
          case measure => simp [intOf]; omega
    · obtain rfl : k = N := by omega
      have b1 := HS6.out.blk.cell 1
      simp at b1
      go_wp2_with fail
      go_end0
      exact ⟨rfl, HS6.out.congr _ _ (fun i j hi _ => upF_all n k _ Gm i j hi) (fun i j hi _ => upF_all n k _ Go i j hi), HF6.out⟩
end Go.Proofs.Ytddmifbgbmjdaab
