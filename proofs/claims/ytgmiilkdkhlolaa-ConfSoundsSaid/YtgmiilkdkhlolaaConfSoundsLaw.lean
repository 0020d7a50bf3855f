/- ConfSounds, walked. -/
import Derived.Test.YtgmiilkdkhlolaaConf3
import Derived.Deep.RegionWith
import Derived.Deep.RegionHeld3
import Derived.Deep.DeepCutAuto
set_option linter.unusedVariables false
set_option linter.unusedSimpArgs false
namespace Go.Proofs.Ytgmiilkdkhlolaa
open Go.RowKit

/-- What the first line asks. -/
def want0 (e : Int) (l : List Int) (k m : Int) : Prop := 1 ≤ e ∧ e ≤ 1099511627776 ∧ 1 ≤ k ∧ k ≤ 100 ∧ 0 ≤ m ∧ m ≤ 16 ∧ (l.length : Int) = k + m
theorem ixI_first (l : List Int) (n : Nat) (hn : n < l.length) : ixI l l[n] = n ↔ l[n] ∉ l.take n := by
  constructor
  · intro h hm
    obtain ⟨i, hi, he⟩ := List.getElem_of_mem hm
    simp only [List.getElem_take] at he
    simp at hi
    have hx : l[n] ∈ l := List.getElem_mem hn
    unfold ixI at h
    rw [if_pos hx] at h
    have : l.idxOf l[n] = n := by omega
    have hnot := List.not_of_lt_findIdx (p := (· == l[n])) (xs := l) (i := i) (by have : l.findIdx (· == l[n]) = n := this; omega)
    simp [he] at hnot
  · intro h
    refine ixI_at n hn rfl fun j hj e => h ?_
    rw [← e]
    exact List.mem_iff_getElem.2 ⟨j, by simp; omega, by simp⟩

theorem wrap_small' (x : Int) (h0 : -9223372036854775808 ≤ x) (h1 : x ≤ 9223372036854775807) : wrap64 x = x := by unfold wrap64; omega
theorem wrap_sum (k m : Int) (h1 : 1 ≤ k) (h2 : k ≤ 9223372036854775807) (h3 : 0 ≤ m) (h4 : m ≤ 16) (n : Nat) (hn : n ≤ 100) (h : (n : Int) = wrap64 (k + m)) : (n : Int) = k + m := by
  unfold wrap64 at h
  omega
set_option maxHeartbeats 4000000 in
set_option maxRecDepth 100000 in
theorem conf_sounds (e : Int) (v : Value) (l : List Int) (k m : Int) (w : World) (he : -9223372036854775808 ≤ e ∧ e ≤ 9223372036854775807) (hv : Ints (· < w.heap.size) w v l) (hr : ∀ z ∈ l, -9223372036854775808 ≤ z ∧ z ≤ 9223372036854775807)
    (hk : -9223372036854775808 ≤ k ∧ k ≤ 9223372036854775807) (hm : -9223372036854775808 ≤ m ∧ m ≤ 9223372036854775807) :
    Calls Try.prog 3 #[.agg #[.int .i64 e, v], .int .i64 k, .int .i64 m] w fun en w' => en = .returned (.bool true) ∧ Below w.heap.size w w' := by
  have hv1 := hv.below ((Below.refl w.heap.size w).alloc (Nat.le_refl _) (.cells #[.int .i64 e, v] 24))
  have Hv := Lib.hid hv1
  obtain ⟨A, cp, rfl, hl, hc⟩ := hv1
  have Hk : Hid (k ≤ 9223372036854775807) := hk.2
  clear hv hr he hk hm
  by_cases hlen : l.length ≤ 100
  · go_enter Try.func3, Try.ntmps3
    go_upto_region 3 with fail
    go_cut [7] (fun s7 wx => ∃ b : Bool, s7 = .bool b ∧ Hid (b = true ↔ want0 e l k m) ∧ wx = w.alloc (.cells #[.int .i64 e, .slice A l.length cp] 24))
    case first =>
      go_wp2_with fail
      all_goals
        go_meet
        refine ⟨_, rfl, ?_, rfl⟩
        unfold Hid want0
        first
          | (simp; omega)
          | (simp only [beq_iff_eq]; omega)
    case rest =>
      obtain ⟨b, rfl, Hb, rfl⟩ := hcut
      have B1 := Lib.hid (Bk.new w 24 #[.int .i64 e, .slice A l.length cp])
      have hb1 : Hid (Below w.heap.size w (w.alloc (.cells #[.int .i64 e, .slice A l.length cp] 24))) := (Below.refl _ _).alloc (Nat.le_refl _) _
      generalize w.alloc (.cells #[.int .i64 e, .slice A l.length cp] 24) = w1 at *
      clear hc
      go_wp2_with fail
      go_loopw [7, 8] (fun s i wr => ∃ (b : Bool) (n : Nat), s = .bool b ∧ n ≤ l.length ∧ i = .int .i64 n ∧ Hid (b = true ↔ want0 e l k m ∧ goodTo l n) ∧ Hid (Bk wr w.heap.size 24 #[.int .i64 e, .slice A l.length cp]) ∧
        Hid (Ints (· < w.heap.size) wr (.slice A l.length cp) l) ∧ Hid (Below w.heap.size w wr)) (fun _ i _ => l.length - (intOf i).toNat)
      case atStart => exact ⟨b, 0, rfl, Nat.zero_le _, rfl, ⟨fun h => ⟨Hb.out.1 h, fun j _ hj => absurd hj (by omega)⟩, fun h => Hb.out.2 h.1⟩, B1, Hv, hb1⟩
      case round =>
        clear Hb B1 Hv hb1
        obtain ⟨b, n, rfl, hn, rfl, Hb, B1, Hv, hb1⟩ := hrel
        have c0 := B1.out.cell 0
        have c1 := B1.out.cell 1
        simp at c0 c1
        by_cases hlt : n < l.length
        · obtain ⟨A', cp', e0, hl', hc⟩ := Hv.out
          simp only [Value.slice.injEq] at e0
          obtain ⟨rfl, -, rfl⟩ := e0
          obtain ⟨ad, rfl, hb, hcell⟩ := rd_int hc n hlt
          clear hc hl'
          have hstep : Hid (∀ b2 : Bool, (b2 = true ↔ (b = true ∧ 0 ≤ l[n] ∧ l[n] < 16 ∧ ixI l l[n] = n)) → (b2 = true ↔ want0 e l k m ∧ goodTo l (n + 1))) := fun b2 h => by
            rw [h, Hb.out]
            constructor
            · rintro ⟨⟨h1, h2⟩, h3, h4, h5⟩
              refine ⟨h1, fun j hj hjn => ?_⟩
              by_cases ej : j = n
              · subst ej; exact ⟨h3, h4, (ixI_first l j hj).1 h5⟩
              · exact h2 j hj (by omega)
            · rintro ⟨h1, h2⟩
              have h3 := h2 n hlt (by omega)
              exact ⟨⟨h1, fun j hj hjn => h2 j hj (by omega)⟩, h3.1, h3.2.1, (ixI_first l n hlt).2 h3.2.2⟩
          cases b
          · go_wp2_with fail
            go_quiet (fail)
            go_wp2_with fail
            go_roundw
            case rel => exact ⟨false, n + 1, rfl, by omega, by go_num, hstep.out false (by simp), B1.out.drewN _, Hv.out.below (below_drewN (Below.refl _ _) _), below_drewN hb1.out _⟩
            case measure => simp [intOf]; omega
          · by_cases hx1 : l[n] < 0
            · have hx2 : decide (0 ≤ l[n]) = false := decide_eq_false (by omega)
              go_wp2_with fail
              go_quiet (fail)
              go_wp2_with fail
              go_roundw
              case rel => exact ⟨false, n + 1, rfl, by omega, by go_num, hstep.out false (by simp; omega), B1.out.drewN _, Hv.out.below (below_drewN (Below.refl _ _) _), below_drewN hb1.out _⟩
              case measure => simp [intOf]; omega
            · have hx2 : decide (0 ≤ l[n]) = true := decide_eq_true (by omega)
              by_cases hx3 : l[n] < 16
              · have hx4 : decide (l[n] < 16) = true := decide_eq_true hx3
                go_wp2_with fail
                go_region_with (go_at_call 11; refine (rpos_calls e _ l l[n] _ _ (Hv.out.below (below_drewN (Below.refl _ _) 1))).mono ?_; rintro en w' ⟨rfl, hb2⟩)
                all_goals
                  have hb3 : Below wr.heap.size wr _ := Below.trans (below_drewN (Below.refl _ _) 1) hb2
                  have B2 := Lib.hid (B1.out.below hb3 B1.out.lt)
                  have Hv2 := Lib.hid (Hv.out.below hb3)
                  have hb4 := Lib.hid (hb1.out.trans (hb3.mono hb1.out.size))
                  have Hs2 : Hid ((ixI l l[n] == (n : Int)) = true ↔ want0 e l k m ∧ goodTo l (n + 1)) := hstep.out _ (by simp only [beq_iff_eq, true_and]; exact ⟨fun h => ⟨hx1, hx3, h⟩, fun h => h.2.2⟩)
                  clear hb2 hb3 hstep Hb B1 Hv hb1
                  go_wp2_with fail
                  go_roundw
                  case rel => exact ⟨_, n + 1, rfl, by omega, by go_num, Hs2, B2, Hv2, hb4⟩
                  case measure => simp [intOf]; omega
              · have hx4 : decide (l[n] < 16) = false := decide_eq_false hx3
                go_wp2_with fail
                go_quiet (fail)
                go_wp2_with fail
                go_roundw
                case rel => exact ⟨false, n + 1, rfl, by omega, by go_num, hstep.out false (by simp; omega), B1.out.drewN _, Hv.out.below (below_drewN (Below.refl _ _) _), below_drewN hb1.out _⟩
                case measure => simp [intOf]; omega
        · obtain rfl : n = l.length := by omega
          have Hfin : Hid (b = soundB e l k m) := by
            unfold Hid
            rw [Bool.eq_iff_iff, Hb.out, soundB_true]
            unfold want0
            constructor
            · rintro ⟨⟨h1, h2, h3, h4, h5, h6, h7⟩, h8⟩
              exact ⟨h1, h2, h3, h5, h6, by rw [wrap_small' _ (by omega) (by omega)]; exact h7, h8⟩
            · rintro ⟨h1, h2, h3, h5, h6, h7, h8⟩
              have h9 := wrap_sum k m h3 Hk.out h5 h6 (l.length) (by omega) h7
              exact ⟨⟨h1, h2, h3, by omega, h5, h6, h9⟩, h8⟩
          clear Hb
          go_wp2_with fail
          clear c0 c1
          refine (awake11_calls _).mono ?_
          rintro en w4 ⟨rfl, hb4⟩
          have H4 := Lib.hid (Hv.out.below hb4)
          have B4 := Lib.hid (B1.out.below hb4 B1.out.lt)
          have Hb4 : Hid (Below w.heap.size w w4) := hb1.out.trans (hb4.mono hb1.out.size)
          clear Hv B1 hb1 hb4
          have c0 := B4.out.cell 0
          have c1 := B4.out.cell 1
          simp at c0 c1
          go_wp2_with fail
          refine (sound_calls e _ l k m _ _ H4.out).mono ?_
          rintro en w5 ⟨rfl, hb5⟩
          rw [← Hfin.out]
          go_wp2_with fail
          go_ret
          exact ⟨by simp, Hb4.out.trans (hb5.mono Hb4.out.size)⟩
  · clear hc
    go_enter Try.func3, Try.ntmps3
    go_wp2_with fail
    refine (awake11_calls _).mono ?_
    rintro en w1 ⟨rfl, hb1⟩
    go_wp2_with fail
    go_ret
    exact ⟨rfl, ((Below.refl _ _).alloc (Nat.le_refl _) _).trans (hb1.mono (by simp))⟩
end Go.Proofs.Ytgmiilkdkhlolaa
