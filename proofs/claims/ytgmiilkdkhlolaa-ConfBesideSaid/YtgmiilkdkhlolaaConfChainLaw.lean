/- ConfChain, walked. -/
import Derived.Test.YtgmiilkdkhlolaaConf3
set_option linter.unusedVariables false
set_option linter.unusedSimpArgs false
namespace Go.Proofs.Ytgmiilkdkhlolaa
open Go.RowKit

theorem good_ix {l : List Int} (h : goodL l) (n : Nat) (hn : n < l.length) : ixI l l[n] = n := by
  refine ixI_at n hn rfl fun j hj e => ?_
  have := (h n hn hn).2.2
  exact this (e ▸ List.mem_iff_getElem.2 ⟨j, by simp; omega, by simp⟩)
theorem at_in (l : List Int) (n : Nat) (hn : n < l.length) : atI l n = (l[n], true) := by
  unfold atI
  rw [if_pos (by omega)]
  simp [List.getD_eq_getElem?_getD, List.getElem?_eq_getElem hn]
theorem at_out (l : List Int) (p : Int) (hp : p < 0 ∨ l.length ≤ p) : atI l p = (0, false) := by
  unfold atI
  rw [if_neg (by omega)]
theorem pos_in {l : List Int} (h : goodL l) (n : Nat) (hn : n < l.length) : posI l l[n] = ((n : Int), true) := by
  unfold posI
  rw [good_ix h n hn, if_neg (by omega), decide_eq_true (by omega)]
theorem next_in {l : List Int} (h : goodL l) (n : Nat) (hn : n + 1 < l.length) : besI l (l[n]'(by omega)) 1 = (l[n + 1], true) := by
  unfold besI
  rw [good_ix h n (by omega), if_pos (by omega), show (n : Int) + 1 = ((n + 1 : Nat) : Int) from by omega, at_in _ _ hn]
theorem next_end {l : List Int} (h : goodL l) (n : Nat) (hn : n < l.length) (he : n + 1 = l.length) : besI l l[n] 1 = (0, false) := by
  unfold besI
  rw [good_ix h n hn, if_pos (by omega), at_out _ _ (by omega)]
theorem prev_in {l : List Int} (h : goodL l) (n : Nat) (hn : n + 1 < l.length) : besI l l[n + 1] (-1) = (l[n]'(by omega), true) := by
  unfold besI
  rw [good_ix h (n + 1) hn, if_pos (by omega), show ((n + 1 : Nat) : Int) + -1 = (n : Int) from by omega, at_in _ _ (by omega)]
theorem prev_end {l : List Int} (h : goodL l) (hn : 0 < l.length) : besI l l[0] (-1) = (0, false) := by
  unfold besI
  rw [good_ix h 0 hn, if_pos (by omega), at_out _ _ (by omega)]
theorem sound_good {e : Int} {l : List Int} (h : soundB e l 1 ((l.length : Int) - 1) = true) : goodL l ∧ 1 ≤ l.length ∧ l.length ≤ 17 := by
  obtain ⟨_, _, _, h4, h5, _, h7⟩ := soundB_true.1 h
  exact ⟨h7, by omega, by omega⟩

/-- What is known of a configuration in its box. -/
structure Boxed (w0 w : World) (b : Nat) (e : Int) (A : Option Addr) (cp : Nat) (l : List Int) : Prop where
  box : Bk w b 24 #[.int .i64 e, .slice A l.length cp]
  reads : Ints (· < w0.heap.size) w (.slice A l.length cp) l
  below : Below w0.heap.size w0 w
theorem Boxed.step {w0 w w' : World} {b : Nat} {e : Int} {A : Option Addr} {cp : Nat} {l : List Int} (h : Boxed w0 w b e A cp l) (hb : Below w.heap.size w w') : Boxed w0 w' b e A cp l :=
  ⟨h.box.below hb h.box.lt, h.reads.below hb, h.below.trans (hb.mono h.below.size)⟩
theorem Boxed.c0 {w0 w : World} {b : Nat} {e : Int} {A : Option Addr} {cp : Nat} {l : List Int} (h : Boxed w0 w b e A cp l) : w.cell? ⟨b, 0, none⟩ = some (.int .i64 e) := by rw [h.box.cell]; rfl
theorem Boxed.c1 {w0 w : World} {b : Nat} {e : Int} {A : Option Addr} {cp : Nat} {l : List Int} (h : Boxed w0 w b e A cp l) : w.cell? ⟨b, 1, none⟩ = some (.slice A l.length cp) := by rw [h.box.cell]; rfl
theorem Boxed.start {w : World} {e : Int} {A : Option Addr} {cp : Nat} {l : List Int} (h : Ints (· < w.heap.size) w (.slice A l.length cp) l) :
    Boxed w (w.alloc (.cells #[.int .i64 e, .slice A l.length cp] 24)) w.heap.size e A cp l :=
  ⟨Bk.new _ _ _, h.below ((Below.refl _ _).alloc (Nat.le_refl _) _), (Below.refl _ _).alloc (Nat.le_refl _) _⟩

set_option maxHeartbeats 4000000 in
set_option maxRecDepth 100000 in
theorem conf_chain (e : Int) (v : Value) (l : List Int) (w : World) (he : -9223372036854775808 ≤ e ∧ e ≤ 9223372036854775807) (hv : Ints (· < w.heap.size) w v l) (hr : ∀ z ∈ l, -9223372036854775808 ≤ z ∧ z ≤ 9223372036854775807) :
    Calls Try.prog 5 #[.agg #[.int .i64 e, v]] w fun en w' => en = .returned (.bool true) ∧ Below w.heap.size w w' := by
  clear he hr
  have hv' := hv
  obtain ⟨A, cp, rfl, hl, -⟩ := hv'
  have X := Lib.hid (Boxed.start (e := e) hv)
  clear hv
  go_enter Try.func5, Try.ntmps5
  go_wp2_with fail
  refine (sound_calls e _ l 1 _ _ _ X.out.reads).mono ?_
  rintro en w1 ⟨rfl, hb1⟩
  have X1 := Lib.hid (X.out.step hb1)
  clear X hb1
  cases hs : soundB e l 1 ((l.length : Int) - 1)
  · clear hs
    go_wp2_with fail
    refine (awake11_calls _).mono ?_
    rintro en w2 ⟨rfl, hb2⟩
    go_wp2_with fail
    go_ret
    exact ⟨rfl, (X1.out.step hb2).below⟩
  · obtain ⟨hg, hl1, hl2⟩ := sound_good hs
    have G := Lib.hid hg
    clear hs hg
    have c0 := X1.out.c0
    have c1 := X1.out.c1
    go_wp2_with fail
    refine (head_calls e _ l _ _ X1.out.reads).mono ?_
    rintro en w2 ⟨rfl, hb2⟩
    rw [show (0 : Int) = ((0 : Nat) : Int) from rfl, at_in l 0 (by omega)]
    have X2 := Lib.hid (X1.out.step hb2)
    clear X1 hb2 c0 c1
    go_wp2_with fail
    go_loopw [3, 5] (fun n i wr => ∃ (k : Nat) (hk : k < l.length), n = .int .i64 l[k] ∧ i = .int .i64 k ∧ Hid (Boxed w wr w.heap.size e A cp l)) (fun _ i _ => l.length - (intOf i).toNat)
    case atStart => exact ⟨0, by omega, rfl, rfl, X2⟩
    case round =>
      clear X2
      obtain ⟨k, hk, rfl, rfl, X3⟩ := hrel
      have c0 := X3.out.c0
      have c1 := X3.out.c1
      go_wp2_with fail
      refine (pos_calls e _ l l[k] _ _ X3.out.reads).mono ?_
      rintro en w3 ⟨rfl, hb3⟩
      rw [pos_in G.out k hk]
      have X4 := Lib.hid (X3.out.step hb3)
      clear X3 hb3 c0 c1
      have c0 := X4.out.c0
      have c1 := X4.out.c1
      have hkk : ((k : Int) != (k : Int)) = false := by simp
      go_wp2_with fail
      refine (next_calls e _ l l[k] _ _ X4.out.reads).mono ?_
      rintro en w4 ⟨rfl, hb4⟩
      have X5 := Lib.hid (X4.out.step hb4)
      clear X4 hb4 c0 c1
      have c0 := X5.out.c0
      have c1 := X5.out.c1
      by_cases hk1 : k + 1 < l.length
      · rw [next_in G.out k hk1]
        have hd : decide ((k : Int) < (l.length : Int) - 1) = true := decide_eq_true (by omega)
        go_wp2_with fail
        refine (prev_calls e _ l l[k + 1] _ _ X5.out.reads).mono ?_
        rintro en w5 ⟨rfl, hb5⟩
        rw [prev_in G.out k hk1]
        have X6 := Lib.hid (X5.out.step hb5)
        clear X5 hb5 c0 c1
        have hkk2 : (l[k] != l[k]) = false := by simp
        go_wp2_with fail
        go_roundw
        case rel => exact ⟨k + 1, hk1, rfl, by go_num, X6⟩
        case measure => simp [intOf]; omega
      · rw [next_end G.out k hk (by omega)]
        have hd : decide ((k : Int) < (l.length : Int) - 1) = false := decide_eq_false (by omega)
        go_wp2_with fail
        refine (tail_calls e _ l _ _ X5.out.reads).mono ?_
        rintro en w5 ⟨rfl, hb5⟩
        have ht : atI l ((l.length : Int) - 1) = (l[k], true) := by
          rw [show (l.length : Int) - 1 = (k : Int) from by omega, at_in l k hk]
        rw [ht]
        clear ht
        have X6 := Lib.hid (X5.out.step hb5)
        clear X5 hb5 c0 c1
        have hkk2 : (l[k] == l[k]) = true := by simp
        go_wp2_with fail
        refine (awake11_calls _).mono ?_
        rintro en w6 ⟨rfl, hb6⟩
        go_wp2_with fail
        go_ret
        exact ⟨rfl, (X6.out.step hb6).below⟩
end Go.Proofs.Ytgmiilkdkhlolaa
