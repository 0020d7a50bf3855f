/- The walks of the solver: scale, pivot, column. -/
import Derived.Test.YtddmifbgbmjdaabMat4
import Derived.BigRegion
set_option linter.unusedVariables false
set_option linter.unusedSimpArgs false
namespace Go.Proofs.Ytddmifbgbmjdaab
open Go.RowKit

theorem bk_apart {α : Type} {f : α → Value} {w : World} {g : Nat} {t : TypeId} {cs : Array Value} {b : Nat} {e : TypeId} {v : Value} {l : List α} (h : Bk w g t cs) (h' : Own f w b e v l) (hne : t ≠ e) : some g ≠ v.ownBlock := by
  intro hk
  unfold Own at h'
  unfold Bk at h
  rcases h'.2 with ⟨rfl, _⟩ | ⟨g', cap, cur, rfl, _, hh, _⟩
  · simp [Value.ownBlock] at hk
  · simp only [Value.ownBlock, Option.some.injEq] at hk
    subst hk
    rw [h] at hh
    simp only [Option.some.injEq, Obj.cells.injEq] at hh
    exact hne hh.2.1
theorem tab_apart {α : Type} {f : α → Value} {w : World} {g : Nat} {b : Nat} {e : TypeId} {v : Value} {l : List α} (h : TabAt w g) (h' : Own f w b e v l) (hne : 82 ≠ e) : some g ≠ v.ownBlock := by
  obtain ⟨cs, hb, _⟩ := h
  exact bk_apart hb h' hne
theorem scale_step (n : Nat) (f : Nat → UInt8) (x : UInt8) (k : Nat) (hk : k < n) : (rowL n (fun j => if j < k then gmul x (f j) else f j)).set k (gmul x (f k)) = rowL n (fun j => if j < k + 1 then gmul x (f j) else f j) := by
  rw [rowL_set]
  refine rowL_congr _ _ _ fun j hj => ?_
  by_cases e : j = k
  · subst e; rw [if_pos rfl, if_pos (by omega)]
  · rw [if_neg e]
    by_cases e2 : j < k
    · rw [if_pos e2, if_pos (by omega)]
    · rw [if_neg e2, if_neg (by omega)]
set_option maxHeartbeats 2000000 in
theorem scale_calls (s tg : Nat) (mv ov row : Value) (n : Nat) (f : Nat → UInt8) (base : Nat) (x : UInt8) (w : World) (HS : Bk w s 69 #[.pointer (some ⟨tg, 0, none⟩), mv, ov]) (HT : TabAt w tg) (ho : OwnB w base 5 row (rowL n f)) (hn : n ≤ 1000000) (hn0 : 0 < n) :
    Calls Try.prog 62 #[.pointer (some ⟨s, 0, none⟩), row, .int .u8 (x.toNat : Int)] w fun e w' => e = .returned (.tuple #[]) ∧ OwnB w' base 5 row (rowL n (fun k => gmul x (f k))) ∧ Fr (fun k => some k ≠ row.ownBlock) w w' := by
  have A1 := Lib.hid (bk_apart HS ho (by decide))
  have A2 := Lib.hid (tab_apart HT ho (by decide))
  have HS' := Lib.hid HS
  have HT' := Lib.hid HT
  have Ho := Lib.hid ho
  obtain ⟨g, c, rfl, hg1, hg2, hc⟩ := own_form ho hn0
  clear HS HT ho
  go_enter Try.func62, Try.ntmps62
  go_wp2_with fail
  go_loopw [6, 7, 10] (fun _ _ i wr => ∃ k : Nat, k ≤ n ∧ i = .int .i64 k ∧ Hid (OwnB wr base 5 (.slice (some ⟨g, 0, none⟩) n c) (rowL n (fun j => if j < k then gmul x (f j) else f j))) ∧ Hid (Fr (fun k => some k ≠ (Value.slice (some ⟨g, 0, none⟩) n c).ownBlock) w wr)) (fun _ _ i _ => n - (intOf i).toNat)
  case atStart => exact ⟨0, Nat.zero_le _, rfl, Lib.hid (by simpa using Ho.out), Lib.hid (Fr.refl _ _)⟩
  case round =>
    obtain ⟨k, hk, rfl, H1, F1⟩ := hrel
    by_cases hlt : k < n
    · obtain ⟨hc2, hz2⟩ := own_at H1.out k hlt
      rw [if_neg (Nat.lt_irrefl k)] at hc2
      have hs0 := (HS'.out.fr F1.out A1.out).cell 0
      simp at hs0
      have HTr : Hid (TabAt wr tg) := HT'.out.fr F1.out A2.out
      have Hs := Lib.hid (scale_step n f x k hlt)
      have Hst := Lib.hid (fun (W : World) (hW : OwnB W base 5 (.slice (some ⟨g, 0, none⟩) n c) (rowL n fun j => if j < k then gmul x (f j) else f j)) => OwnB.stored hW k (gmul x (f k)))
      rw [Hs.out] at Hst
      generalize hfk : f k = fk at *
      have Hfk := Lib.hid hfk
      clear hfk
      have Hm := Lib.hid (fun W h => tmul8 tg x fk W h)
      generalize gmul x fk = z at *
      go_wp2_with fail
      refine (Hm.out _ (by exact HTr.out)).mono ?_
      rintro e w4 ⟨rfl, n4, rfl⟩
      go_wp2_with fail
      go_roundw
      case rel => exact ⟨k + 1, by omega, by go_num, Lib.hid (Hst.out _ (by exact H1.out)), Lib.hid ((F1.out.drewN _).setCell (p := ⟨g, k, none⟩) (fun _ => by simp [Value.ownBlock]) _)⟩
      case measure => simp [intOf]; omega
    · obtain rfl : k = n := by omega
      go_wp2_with fail
      go_end0
      refine ⟨rfl, ?_, F1.out⟩
      have := H1.out
      rw [show rowL k (fun j => if j < k then gmul x (f j) else f j) = rowL k (fun j => gmul x (f j)) from rowL_congr _ _ _ fun j hj => if_pos hj] at this
      exact this
end Go.Proofs.Ytddmifbgbmjdaab
