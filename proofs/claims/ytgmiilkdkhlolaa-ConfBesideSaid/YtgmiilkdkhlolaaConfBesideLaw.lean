/- ConfBeside, walked. -/
import Derived.Test.YtgmiilkdkhlolaaConfChainLaw
set_option linter.unusedVariables false
set_option linter.unusedSimpArgs false
namespace Go.Proofs.Ytgmiilkdkhlolaa
open Go.RowKit

theorem good_ne {l : List Int} (h : goodL l) (i j : Nat) (hi : i < l.length) (hj : j < l.length) (hne : i ≠ j) : l[i] ≠ l[j] := fun e => by
  have h1 := good_ix h i hi
  have h2 := good_ix h j hj
  rw [e] at h1
  omega
theorem pos_out {l : List Int} {x : Int} (h : x ∉ l) : posI l x = (0, false) := by
  unfold posI ixI
  simp [h]
theorem bes_out {l : List Int} {x d : Int} (h : x ∉ l) : besI l x d = (0, false) := by
  unfold besI ixI
  simp [h]

set_option maxHeartbeats 4000000 in
set_option maxRecDepth 100000 in
theorem conf_beside (e : Int) (v : Value) (l : List Int) (x : Int) (w : World) (he : -9223372036854775808 ≤ e ∧ e ≤ 9223372036854775807) (hv : Ints (· < w.heap.size) w v l) (hr : ∀ z ∈ l, -9223372036854775808 ≤ z ∧ z ≤ 9223372036854775807)
    (hx : -9223372036854775808 ≤ x ∧ x ≤ 9223372036854775807) :
    Calls Try.prog 6 #[.agg #[.int .i64 e, v], .int .i64 x] w fun en w' => en = .returned (.bool true) ∧ Below w.heap.size w w' := by
  clear he hr hx
  have hv' := hv
  obtain ⟨A, cp, rfl, hl, -⟩ := hv'
  have X := Lib.hid (Boxed.start (e := e) hv)
  clear hv
  go_enter Try.func6, Try.ntmps6
  go_wp2_with fail
  refine (sound_calls e _ l 1 _ _ _ X.out.reads).mono ?_
  rintro en w1 ⟨rfl, hb1⟩
  have X1 := Lib.hid (X.out.step hb1)
  clear X hb1
  cases hs : soundB e l 1 ((l.length : Int) - 1)
  · clear hs
    go_wp2_with fail
    refine (awake11_calls _).mono ?_
    rintro en w2 ⟨rfl, hb2⟩
    go_wp2_with fail
    go_ret
    exact ⟨rfl, (X1.out.step hb2).below⟩
  · obtain ⟨hg, hl1, hl2⟩ := sound_good hs
    have G := Lib.hid hg
    clear hs hg
    have c0 := X1.out.c0
    have c1 := X1.out.c1
    go_wp2_with fail
    refine (pos_calls e _ l x _ _ X1.out.reads).mono ?_
    rintro en w2 ⟨rfl, hb2⟩
    have X2 := Lib.hid (X1.out.step hb2)
    clear X1 hb2 c0 c1
    have c0 := X2.out.c0
    have c1 := X2.out.c1
    go_wp2_with fail
    refine (next_calls e _ l x _ _ X2.out.reads).mono ?_
    rintro en w3 ⟨rfl, hb3⟩
    have X3 := Lib.hid (X2.out.step hb3)
    clear X2 hb3 c0 c1
    have c0 := X3.out.c0
    have c1 := X3.out.c1
    go_wp2_with fail
    refine (prev_calls e _ l x _ _ X3.out.reads).mono ?_
    rintro en w4 ⟨rfl, hb4⟩
    have X4 := Lib.hid (X3.out.step hb4)
    clear X3 hb4 c0 c1
    have c0 := X4.out.c0
    have c1 := X4.out.c1
    by_cases hm : x ∈ l
    · obtain ⟨k, hk, rfl⟩ := List.getElem_of_mem hm
      clear hm
      have Hh : Hid (atI l 0 = (l[0]'(by omega), true)) := at_in l 0 (by omega)
      have Ht : Hid (atI l ((l.length : Int) - 1) = (l[l.length - 1]'(by omega), true)) := by
        rw [show (l.length : Int) - 1 = ((l.length - 1 : Nat) : Int) from by omega]
        exact at_in l (l.length - 1) (by omega)
      have hself : (l[k] != l[k]) = false := by simp
      rw [pos_in G.out k hk]
      have Hhead : Hid ((l[k] != l[0]'(by omega)) = decide (0 < k)) := by
        by_cases h0 : k = 0
        · subst h0; simp [Hid]
        · rw [decide_eq_true (by omega)]; exact bne_iff_ne.2 (good_ne G.out k 0 hk (by omega) h0)
      have Htail : Hid ((l[k] != l[l.length - 1]'(by omega)) = decide (k + 1 < l.length)) := by
        by_cases h0 : k = l.length - 1
        · subst h0
          rw [decide_eq_false (by omega)]
          simp [Hid]
        · rw [decide_eq_true (by omega)]; exact bne_iff_ne.2 (good_ne G.out k _ hk (by omega) h0)
      by_cases hn : k + 1 < l.length <;> by_cases h0 : k = 0
      · subst h0
        rw [next_in G.out 0 hn, prev_end G.out (by omega)]
        go_wp2_with fail
        refine (prev_calls e _ l l[0 + 1] _ _ X4.out.reads).mono ?_
        rintro en wm ⟨rfl, hbm⟩
        rw [prev_in G.out (0) hn]
        have X5 := Lib.hid (X4.out.step hbm)
        clear X4 hbm c0 c1
        have c0 := X5.out.c0
        have c1 := X5.out.c1
        go_wp2_with fail
        refine (head_calls e _ l _ _ X5.out.reads).mono ?_
        rintro en w6 ⟨rfl, hb6⟩
        rw [Hh.out]
        have Y6 := Lib.hid (X5.out.step hb6)
        clear X5 hb6 c0 c1
        have c0 := Y6.out.c0
        have c1 := Y6.out.c1
        go_wp2_with fail
        refine (tail_calls e _ l _ _ Y6.out.reads).mono ?_
        rintro en w7 ⟨rfl, hb7⟩
        rw [Ht.out]
        have X7 := Lib.hid (Y6.out.step hb7)
        clear Y6 hb7 c0 c1
        go_wp2_with fail
        refine (awake11_calls _).mono ?_
        rintro en w8 ⟨rfl, hb8⟩
        have e1 := Hhead.out
        have e2 := Htail.out
        rw [decide_eq_false (by omega)] at e1; rw [decide_eq_true hn] at e2
        go_wp2_with fail
        go_ret
        exact ⟨rfl, (X7.out.step hb8).below⟩
      · obtain ⟨j, rfl⟩ : ∃ j, k = j + 1 := ⟨k - 1, by omega⟩
        rw [next_in G.out (j + 1) hn, prev_in G.out j hk]
        go_wp2_with fail
        refine (prev_calls e _ l l[j + 1 + 1] _ _ X4.out.reads).mono ?_
        rintro en wm ⟨rfl, hbm⟩
        rw [prev_in G.out (j + 1) hn]
        have X5 := Lib.hid (X4.out.step hbm)
        clear X4 hbm c0 c1
        have c0 := X5.out.c0
        have c1 := X5.out.c1
        go_wp2_with fail
        refine (next_calls e _ l l[j] _ _ X5.out.reads).mono ?_
        rintro en wl ⟨rfl, hbl⟩
        rw [next_in G.out j hk]
        have X6 := Lib.hid (X5.out.step hbl)
        clear X5 hbl c0 c1
        have c0 := X6.out.c0
        have c1 := X6.out.c1
        go_wp2_with fail
        refine (head_calls e _ l _ _ X6.out.reads).mono ?_
        rintro en w6 ⟨rfl, hb6⟩
        rw [Hh.out]
        have Y6 := Lib.hid (X6.out.step hb6)
        clear X6 hb6 c0 c1
        have c0 := Y6.out.c0
        have c1 := Y6.out.c1
        go_wp2_with fail
        refine (tail_calls e _ l _ _ Y6.out.reads).mono ?_
        rintro en w7 ⟨rfl, hb7⟩
        rw [Ht.out]
        have X7 := Lib.hid (Y6.out.step hb7)
        clear Y6 hb7 c0 c1
        go_wp2_with fail
        refine (awake11_calls _).mono ?_
        rintro en w8 ⟨rfl, hb8⟩
        have e1 := Hhead.out
        have e2 := Htail.out
        rw [decide_eq_true (by omega)] at e1; rw [decide_eq_true hn] at e2
        go_wp2_with fail
        go_ret
        exact ⟨rfl, (X7.out.step hb8).below⟩
      · subst h0
        rw [next_end G.out 0 hk (by omega), prev_end G.out (by omega)]
        go_wp2_with fail
        refine (head_calls e _ l _ _ X4.out.reads).mono ?_
        rintro en w6 ⟨rfl, hb6⟩
        rw [Hh.out]
        have Y6 := Lib.hid (X4.out.step hb6)
        clear X4 hb6 c0 c1
        have c0 := Y6.out.c0
        have c1 := Y6.out.c1
        go_wp2_with fail
        refine (tail_calls e _ l _ _ Y6.out.reads).mono ?_
        rintro en w7 ⟨rfl, hb7⟩
        rw [Ht.out]
        have X7 := Lib.hid (Y6.out.step hb7)
        clear Y6 hb7 c0 c1
        go_wp2_with fail
        refine (awake11_calls _).mono ?_
        rintro en w8 ⟨rfl, hb8⟩
        have e1 := Hhead.out
        have e2 := Htail.out
        rw [decide_eq_false (by omega)] at e1; rw [decide_eq_false hn] at e2
        go_wp2_with fail
        go_ret
        exact ⟨rfl, (X7.out.step hb8).below⟩
      · obtain ⟨j, rfl⟩ : ∃ j, k = j + 1 := ⟨k - 1, by omega⟩
        rw [next_end G.out (j + 1) hk (by omega), prev_in G.out j hk]
        go_wp2_with fail
        refine (next_calls e _ l l[j] _ _ X4.out.reads).mono ?_
        rintro en wl ⟨rfl, hbl⟩
        rw [next_in G.out j hk]
        have X6 := Lib.hid (X4.out.step hbl)
        clear X4 hbl c0 c1
        have c0 := X6.out.c0
        have c1 := X6.out.c1
        go_wp2_with fail
        refine (head_calls e _ l _ _ X6.out.reads).mono ?_
        rintro en w6 ⟨rfl, hb6⟩
        rw [Hh.out]
        have Y6 := Lib.hid (X6.out.step hb6)
        clear X6 hb6 c0 c1
        have c0 := Y6.out.c0
        have c1 := Y6.out.c1
        go_wp2_with fail
        refine (tail_calls e _ l _ _ Y6.out.reads).mono ?_
        rintro en w7 ⟨rfl, hb7⟩
        rw [Ht.out]
        have X7 := Lib.hid (Y6.out.step hb7)
        clear Y6 hb7 c0 c1
        go_wp2_with fail
        refine (awake11_calls _).mono ?_
        rintro en w8 ⟨rfl, hb8⟩
        have e1 := Hhead.out
        have e2 := Htail.out
        rw [decide_eq_true (by omega)] at e1; rw [decide_eq_false hn] at e2
        go_wp2_with fail
        go_ret
        exact ⟨rfl, (X7.out.step hb8).below⟩
    · rw [pos_out hm, bes_out hm, bes_out hm]
      go_wp2_with fail
      refine (awake11_calls _).mono ?_
      rintro en w5 ⟨rfl, hb5⟩
      go_wp2_with fail
      go_ret
      exact ⟨rfl, (X4.out.step hb5).below⟩
end Go.Proofs.Ytgmiilkdkhlolaa
