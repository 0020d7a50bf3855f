/- The walks of mat.empty, mat.line, (*solver).scale. -/
import Derived.Test.YtddmifbgbmjdaabMat
import Derived.StillTailTactics
set_option linter.unusedVariables false
set_option linter.unusedSimpArgs false
namespace Go.Proofs.Ytddmifbgbmjdaab
open Go.RowKit

theorem bytes_at {P : Nat → Prop} {w : World} {A : Option Addr} {n c m : Nat} {f : Nat → UInt8} (h : Bytes P w (.slice A n c) (rowL m f)) (k : Nat) (hk : k < m) : ∃ ad, A = some ad ∧ P ad.block ∧ w.cell? (ad.add k) = some (.int .u8 ((f k).toNat : Int)) := by
  obtain ⟨A', c', e, _, hr⟩ := h
  simp only [Value.slice.injEq] at e
  obtain ⟨rfl, -, -⟩ := e
  obtain ⟨ad, e, hp, hc⟩ := rd_at hr k (by rw [rowL_length]; exact hk)
  rw [rowL_get] at hc
  exact ⟨ad, e, hp, hc⟩
theorem own_at {w : World} {base g m c n : Nat} {f : Nat → UInt8} (h : OwnB w base 5 (.slice (some ⟨g, 0, none⟩) m c) (rowL n f)) (k : Nat) (hk : k < n) : w.cell? ⟨g, k, none⟩ = some (.int .u8 ((f k).toNat : Int)) ∧ w.frozen? ⟨g, k, none⟩ = false := by
  have := Own.cell h k (by rw [rowL_length]; exact hk)
  rw [rowL_get] at this
  exact this
theorem own_form {w : World} {base n : Nat} {v : Value} {f : Nat → UInt8} (h : OwnB w base 5 v (rowL n f)) (h0 : 0 < n) : ∃ g c, v = .slice (some ⟨g, 0, none⟩) n c ∧ base ≤ g ∧ g < w.heap.size ∧ n ≤ c := by
  obtain ⟨g, c, e, h1, h2, h3⟩ := OwnB.form h (by rw [rowL_length]; exact h0)
  rw [rowL_length] at *
  exact ⟨g, c, e, h1, h2, h3⟩
theorem line_end (n : Nat) (f h : Nat → UInt8) (x : UInt8) : rowL n (fun j => if j < n then f j ^^^ gmul x (h j) else f j) = rowL n (fun j => f j ^^^ gmul x (h j)) := rowL_congr _ _ _ fun k hk => by rw [if_pos hk]
theorem line_step (n : Nat) (f h : Nat → UInt8) (x : UInt8) (k : Nat) (hk : k < n) : (rowL n (fun j => if j < k then f j ^^^ gmul x (h j) else f j)).set k (f k ^^^ gmul x (h k)) = rowL n (fun j => if j < k + 1 then f j ^^^ gmul x (h j) else f j) := by
  rw [rowL_set]
  refine rowL_congr _ _ _ fun j hj => ?_
  by_cases e : j = k
  · subst e; rw [if_pos rfl, if_pos (by omega)]
  · rw [if_neg e]
    by_cases e2 : j < k
    · rw [if_pos e2, if_pos (by omega)]
    · rw [if_neg e2, if_neg (by omega)]
set_option maxHeartbeats 2000000 in
theorem line_calls (tg : Nat) (to from_ : Value) (n : Nat) (f h : Nat → UInt8) (base : Nat) (x : UInt8) (Q : Nat → Prop) (w : World) (HT : TabAt w tg) (ho : OwnB w base 5 to (rowL n f)) (hf : Bytes Q w from_ (rowL n h)) (hQ : ∀ k, Q k → some k ≠ to.ownBlock) (htg : some tg ≠ to.ownBlock) (hn : n ≤ 1000000) :
    Calls Try.prog 43 #[.pointer (some ⟨tg, 0, none⟩), to, from_, .int .u8 (x.toNat : Int)] w fun e w' => e = .returned (.tuple #[]) ∧ OwnB w' base 5 to (rowL n (fun k => f k ^^^ gmul x (h k))) ∧ Fr (fun k => some k ≠ to.ownBlock) w w' := by
  have Hf := Lib.hid hf
  have Ho := Lib.hid ho
  have HT' := Lib.hid HT
  obtain ⟨A, c, rfl, hl, hc⟩ := hf
  rw [rowL_length] at *
  obtain ⟨A1, n1, c1, rfl⟩ := ho.shape
  clear hc ho HT
  by_cases hx : x = 0
  · subst hx
    have Hr : Hid (rowL n (fun k => f k ^^^ gmul 0 (h k)) = rowL n f) := rowL_congr _ _ _ fun k hk => by rw [zero_gmul, UInt8.xor_zero]
    go_enter Try.func43, Try.ntmps43
    go_wp2_with fail
    refine bodyPost_ret (results_none rfl _ _ _) rfl ⟨rfl, ?_, Fr.refl _ _⟩
    rw [Hr.out]; exact Ho.out
  · have hx0 : ((x.toNat : Int) == 0) = false := by rw [u8_zero, decide_eq_false hx]
    have HQ := Lib.hid hQ
    have Htg := Lib.hid htg
    clear hx hQ htg
    go_enter Try.func43, Try.ntmps43
    go_wp2_with fail
    go_loopw [8, 9, 14] (fun _ _ i wr => ∃ k : Nat, k ≤ n ∧ i = .int .i64 k ∧ Hid (OwnB wr base 5 (.slice A1 n1 c1) (rowL n (fun j => if j < k then f j ^^^ gmul x (h j) else f j))) ∧ Hid (Fr (fun k => some k ≠ (Value.slice A1 n1 c1).ownBlock) w wr)) (fun _ _ i _ => n - (intOf i).toNat)
    case atStart => exact ⟨0, Nat.zero_le _, rfl, Lib.hid (by simpa using Ho.out), Lib.hid (Fr.refl _ _)⟩
    case round =>
      obtain ⟨k, hk, rfl, H1, F1⟩ := hrel
      by_cases hlt : k < n
      · obtain ⟨g, cap, e0, hg1, hg2, hcap⟩ := own_form H1.out (by omega)
        simp only [Value.slice.injEq] at e0
        obtain ⟨rfl, rfl, rfl⟩ := e0
        obtain ⟨ad, rfl, hb, hc1⟩ := bytes_at (Hf.out.fr F1.out (fun j hj => HQ.out j hj)) k hlt
        obtain ⟨hc2, hz2⟩ := own_at H1.out k hlt
        have e2 : (if k < k then f k ^^^ gmul x (h k) else f k) = f k := if_neg (Nat.lt_irrefl k)
        rw [e2] at hc2
        have HTr : Hid (TabAt wr tg) := HT'.out.fr F1.out Htg.out
        have Hs := Lib.hid (line_step n1 f h x k hlt)
        have Hst := Lib.hid (fun (W : World) (hW : OwnB W base 5 (.slice (some ⟨g, 0, none⟩) n1 c1) (rowL n1 fun j => if j < k then f j ^^^ gmul x (h j) else f j)) => OwnB.stored hW k (f k ^^^ gmul x (h k)))
        rw [Hs.out] at Hst
        clear e2
        generalize hfk : f k = fk at *
        generalize hhk : h k = hkk at *
        have Hfk := Lib.hid hfk
        have Hhk := Lib.hid hhk
        clear hfk hhk
        have H57 := Lib.hid (fun W => add8 fk (gmul x hkk) W)
        generalize hz : fk ^^^ gmul x hkk = z at *
        clear hz
        go_wp2_with fail
        go_region_with (first | (go_at_call 58; refine (tmul8 tg x hkk _ (by exact HTr.out)).mono ?_; rintro e w4 ⟨rfl, n4, rfl⟩) | (go_at_call 57; refine (H57.out _).mono ?_; rintro e w4 ⟨rfl, rfl⟩))
        all_goals
          go_wp2_with fail
          go_roundw
          case rel => exact ⟨k + 1, by omega, by go_num, Lib.hid (Hst.out _ (by exact H1.out)), Lib.hid ((F1.out.drewN _).setCell (p := ⟨g, k, none⟩) (fun _ => by simp [Value.ownBlock]) _)⟩
          case measure => simp [intOf]; omega
      · obtain rfl : k = n := by omega
        go_wp2_with fail
        go_end0
        refine ⟨rfl, ?_, F1.out⟩
        have := H1.out
        rw [line_end] at this
        exact this

end Go.Proofs.Ytddmifbgbmjdaab
