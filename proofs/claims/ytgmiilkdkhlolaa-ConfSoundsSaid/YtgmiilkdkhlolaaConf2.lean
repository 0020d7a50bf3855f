/- The walks of conf.Sound, conf.First, Ints and the fixed fact. -/
import Derived.Test.YtgmiilkdkhlolaaConf
set_option linter.unusedVariables false
set_option linter.unusedSimpArgs false
namespace Go.Proofs.Ytgmiilkdkhlolaa
open Go.RowKit

/-- All from 0 to 15, and all different. -/
def goodTo (l : List Int) (n : Nat) : Prop := ∀ j (hj : j < l.length), j < n → 0 ≤ l[j] ∧ l[j] < 16 ∧ l[j] ∉ l.take j
def goodL (l : List Int) : Prop := goodTo l l.length
open Classical in
noncomputable def soundB (e : Int) (l : List Int) (k m : Int) : Bool := decide (1 ≤ e ∧ e ≤ 1099511627776 ∧ 1 ≤ k ∧ 0 ≤ m ∧ m ≤ 16 ∧ (l.length : Int) = wrap64 (k + m) ∧ goodL l)
theorem soundB_true {e : Int} {l : List Int} {k m : Int} : soundB e l k m = true ↔ (1 ≤ e ∧ e ≤ 1099511627776 ∧ 1 ≤ k ∧ 0 ≤ m ∧ m ≤ 16 ∧ (l.length : Int) = wrap64 (k + m) ∧ goodL l) := by unfold soundB; simp
theorem soundB_false {e : Int} {l : List Int} {k m : Int} (h : ¬ (1 ≤ e ∧ e ≤ 1099511627776 ∧ 1 ≤ k ∧ 0 ≤ m ∧ m ≤ 16 ∧ (l.length : Int) = wrap64 (k + m) ∧ goodL l)) : soundB e l k m = false := by
  rw [← Bool.not_eq_true, soundB_true]; exact h

set_option maxHeartbeats 1000000 in
theorem sound_calls (e : Int) (v : Value) (l : List Int) (k m : Int) (P : Nat → Prop) (w : World) (hv : Ints P w v l) :
    Calls Try.prog 12 #[.agg #[.int .i64 e, v], .int .i64 k, .int .i64 m] w fun en w' => en = .returned (.bool (soundB e l k m)) ∧ Below w.heap.size w w' := by
  have hv1 := hv.below ((Below.refl w.heap.size w).alloc (Nat.le_refl _) (.cells #[.int .i64 e, v] 24))
  have Hv := Lib.hid hv1
  obtain ⟨A, cp, rfl, hl, hc⟩ := hv1
  clear hv
  by_cases c : 1 ≤ e ∧ e ≤ 1099511627776 ∧ 1 ≤ k ∧ 0 ≤ m ∧ m ≤ 16 ∧ (l.length : Int) = wrap64 (k + m)
  · obtain ⟨c1, c2, c3, c4, c5, c6⟩ := c
    have Hy : Hid (goodL l → soundB e l k m = true) := fun h => soundB_true.2 ⟨c1, c2, c3, c4, c5, c6, h⟩
    have Hn : Hid (¬ goodL l → soundB e l k m = false) := fun h => soundB_false (fun ⟨_, _, _, _, _, _, h'⟩ => h h')
    have c6b : ((l.length : Int) != wrap64 (k + m)) = false := by rw [← c6]; simp
    clear c6
    go_enter Try.func12, Try.ntmps12
    go_wp2_with fail
    go_loop [41] (fun i => ∃ k : Nat, k ≤ l.length ∧ i = .int .i64 k ∧ Hid (goodTo l k)) (fun i => l.length - (intOf i).toNat)
    case atStart => exact ⟨0, Nat.zero_le _, rfl, fun j _ hj => absurd hj (by omega)⟩
    case round =>
      obtain ⟨n, hn, rfl, hg⟩ := hrel
      by_cases hlt : n < l.length
      · obtain ⟨ad, rfl, hb, hcell⟩ := rd_int hc n hlt
        by_cases hx : 0 ≤ l[n] ∧ l[n] < 16
        · obtain ⟨hx1, hx2⟩ := hx
          have Hx : Hid (0 ≤ l[n] ∧ l[n] < 16) := ⟨hx1, hx2⟩
          by_cases hm : 0 ≤ ixI (l.take n) l[n]
          · have Hm := Lib.hid ((ixI_mem _ _).1 hm)
            have hm2 : decide (0 ≤ ixI (l.take n) l[n]) = true := decide_eq_true hm
            have Hcut := Lib.hid (Hv.out.cut n (by omega))
            clear hm
            go_wp2_with fail
            refine (contains_calls _ (l.take n) l[n] P _ Hcut.out).mono ?_
            rintro en w' ⟨rfl, rfl⟩
            rw [hm2]
            go_wp2_with fail
            go_ret
            refine ⟨by rw [Hn.out (fun h => (h n hlt hlt).2.2 Hm.out)]; rfl, (Below.refl _ _).alloc (Nat.le_refl _) _⟩
          · have Hm : Hid (l[n] ∉ l.take n) := fun h => hm ((ixI_mem _ _).2 h)
            have hm2 : decide (0 ≤ ixI (l.take n) l[n]) = false := decide_eq_false hm
            have Hcut := Lib.hid (Hv.out.cut n (by omega))
            clear hm
            go_wp2_with fail
            refine (contains_calls _ (l.take n) l[n] P _ Hcut.out).mono ?_
            rintro en w' ⟨rfl, rfl⟩
            rw [hm2]
            go_wp2_with fail
            go_round
            case rel =>
              refine ⟨n + 1, by omega, by go_num, fun j hj hjn => ?_⟩
              by_cases ej : j = n
              · subst ej; exact ⟨Hx.out.1, Hx.out.2, Hm.out⟩
              · exact hg.out j hj (by omega)
            case measure => simp [intOf]; omega
        · have Hx : Hid (¬ (0 ≤ l[n] ∧ l[n] < 16)) := hx
          by_cases hx1 : l[n] < 0
          · clear hx
            go_wp2_with fail
            go_ret
            refine ⟨by rw [Hn.out (fun h => Hx.out ⟨(h n hlt hlt).1, (h n hlt hlt).2.1⟩)]; rfl, (Below.refl _ _).alloc (Nat.le_refl _) _⟩
          · have hx2 : 16 ≤ l[n] := by omega
            clear hx
            go_wp2_with fail
            go_ret
            refine ⟨by rw [Hn.out (fun h => Hx.out ⟨(h n hlt hlt).1, (h n hlt hlt).2.1⟩)]; rfl, (Below.refl _ _).alloc (Nat.le_refl _) _⟩
      · obtain rfl : n = l.length := by omega
        go_wp2_with fail
        go_ret
        refine ⟨by rw [Hy.out hg.out]; rfl, (Below.refl _ _).alloc (Nat.le_refl _) _⟩
  · have Hn : Hid (soundB e l k m = false) := soundB_false (fun ⟨a1, a2, a3, a4, a5, a6, _⟩ => c ⟨a1, a2, a3, a4, a5, a6⟩)
    clear hc Hv
    have hcase : e < 1 ∨ (1 ≤ e ∧ 1099511627776 < e) ∨ (1 ≤ e ∧ e ≤ 1099511627776 ∧ k < 1) ∨ (1 ≤ e ∧ e ≤ 1099511627776 ∧ 1 ≤ k ∧ m < 0) ∨ (1 ≤ e ∧ e ≤ 1099511627776 ∧ 1 ≤ k ∧ 0 ≤ m ∧ 16 < m) ∨
        (1 ≤ e ∧ e ≤ 1099511627776 ∧ 1 ≤ k ∧ 0 ≤ m ∧ m ≤ 16 ∧ ((l.length : Int) != wrap64 (k + m)) = true) := by
      by_cases a6 : (l.length : Int) = wrap64 (k + m)
      · omega
      · have : ((l.length : Int) != wrap64 (k + m)) = true := by rw [bne_iff_ne]; exact a6
        have key : e < 1 ∨ (1 ≤ e ∧ 1099511627776 < e) ∨ (1 ≤ e ∧ e ≤ 1099511627776 ∧ k < 1) ∨ (1 ≤ e ∧ e ≤ 1099511627776 ∧ 1 ≤ k ∧ m < 0) ∨ (1 ≤ e ∧ e ≤ 1099511627776 ∧ 1 ≤ k ∧ 0 ≤ m ∧ 16 < m) ∨ (1 ≤ e ∧ e ≤ 1099511627776 ∧ 1 ≤ k ∧ 0 ≤ m ∧ m ≤ 16) := by omega
        rcases key with h | h | h | h | h | h
        · exact .inl h
        · exact .inr (.inl h)
        · exact .inr (.inr (.inl h))
        · exact .inr (.inr (.inr (.inl h)))
        · exact .inr (.inr (.inr (.inr (.inl h))))
        · exact .inr (.inr (.inr (.inr (.inr ⟨h.1, h.2.1, h.2.2.1, h.2.2.2.1, h.2.2.2.2, this⟩))))
    clear c
    rcases hcase with a1 | ⟨a1, a2⟩ | ⟨a1, a2, a3⟩ | ⟨a1, a2, a3, a4⟩ | ⟨a1, a2, a3, a4, a5⟩ | ⟨a1, a2, a3, a4, a5, a6⟩
    all_goals
      go_enter Try.func12, Try.ntmps12
      go_wp2_with fail
      go_ret
      exact ⟨by rw [Hn.out]; rfl, (Below.refl _ _).alloc (Nat.le_refl _) _⟩

set_option maxHeartbeats 400000 in
theorem ints_calls (v0 v1 : Value) (a b : List Int) (P Q : Nat → Prop) (w : World) (h0 : Ints P w v0 a) (h1 : Ints Q w v1 b) :
    Calls Try.prog 14 #[v0, v1] w fun e w' => e = .returned (.bool (decide (a = b))) ∧ ∃ n, w' = w.drewN n := by
  obtain ⟨A, cp, rfl, hl, hc⟩ := h0
  obtain ⟨A1, cp1, rfl, hl1, hc1⟩ := h1
  by_cases hlen : a.length = b.length
  · have hlb : ((a.length : Int) != (b.length : Int)) = false := by simp [hlen]
    go_enter Try.func14, Try.ntmps14
    go_wp2_with fail
    go_loopw [5] (fun i wr => ∃ k n : Nat, k ≤ a.length ∧ i = .int .i64 k ∧ wr = w.drewN n ∧ Hid (∀ j (h : j < a.length), j < k → a[j] = b[j]'(by omega))) (fun i _ => a.length - (intOf i).toNat)
    case atStart => exact ⟨0, 0, Nat.zero_le _, rfl, rfl, fun j _ hj => absurd hj (by omega)⟩
    case round =>
      obtain ⟨k, n, hk, rfl, rfl, hs⟩ := hrel
      by_cases hlt : k < a.length
      · obtain ⟨ad, rfl, hb, hcell⟩ := rd_int hc k hlt
        obtain ⟨ad1, rfl, hb1, hcell1⟩ := rd_int hc1 k (by omega)
        have hlt1 : k < b.length := by omega
        by_cases he : a[k] = b[k]
        · have hx : (a[k] != b[k]) = false := by simp [he]
          have Hn : Hid (∀ j (h : j < a.length), j < k + 1 → a[j] = b[j]'(by omega)) := fun j hj h => by
            by_cases ej : j = k
            · subst ej; exact he
            · exact hs.out j hj (by omega)
          have Hlen := Lib.hid hlen
          clear he
          go_wp2_with fail
          go_quiet (fail)
          go_wp2_with fail
          go_roundw
          case rel => exact ⟨k + 1, _, by omega, by go_num, rfl, Hn⟩
          case measure => simp [intOf]; omega
        · have hx : (a[k] != b[k]) = true := by rw [bne_iff_ne]; exact he
          have Hr : Hid (decide (a = b) = false) := decide_eq_false (fun h => he (by simp [h]))
          clear he
          go_wp2_with fail
          go_quiet (fail)
          go_wp2_with fail
          go_ret
          exact ⟨by rw [Hr.out]; rfl, _, World.drewN_drewN ..⟩
      · have Hr : Hid (decide (a = b) = true) := decide_eq_true (List.ext_getElem hlen (fun j h1 h2 => hs.out j h1 (by omega)))
        go_wp2_with fail
        go_ret
        exact ⟨by rw [Hr.out]; rfl, n, rfl⟩
  · have hlb : ((a.length : Int) != (b.length : Int)) = true := by rw [bne_iff_ne]; omega
    have Hr : Hid (decide (a = b) = false) := decide_eq_false (fun h => hlen (by rw [h]))
    clear hlen
    go_enter Try.func14, Try.ntmps14
    go_wp2_with fail
    go_ret
    exact ⟨by rw [Hr.out]; rfl, 0, rfl⟩

theorem info_int : (Try.prog.info? 3).map (fun i => (i.zero, i.size, i.bytes)) = some (some (.int .i64 0), 1, 8) := by kernel_rfl
def upto (n : Nat) : List Int := (List.range n).map Int.ofNat
theorem upto_succ (n : Nat) : upto (n + 1) = upto n ++ [(n : Int)] := by simp [upto, List.range_succ]
theorem upto_length (n : Nat) : (upto n).length = n := by simp [upto]

set_option maxHeartbeats 1000000 in
theorem first_calls (k m : Nat) (hk : 1 ≤ k) (hkm : k + m ≤ 16) (w : World) :
    Calls Try.prog 13 #[.int .i64 (k : Int), .int .i64 (m : Int)] w fun e w' => ∃ v, e = .returned (.agg #[.int .i64 1, v]) ∧ OwnI w' w.heap.size 3 v (upto (k + m)) ∧ Below w.heap.size w w' := by
  go_enter Try.func13, Try.ntmps13
  go_wp2_with fail
  have B0 := Lib.hid ((Bk.new w 24 #[.int .i64 0, .slice none 0 0]).alloc (.cells #[.int .i64 1, .slice none 0 0] 24))
  have B1 := Lib.hid (Bk.new (w.alloc (.cells #[.int .i64 0, .slice none 0 0] 24)) 24 #[.int .i64 1, .slice none 0 0])
  go_loopw [6, 28] (fun x i wr => ∃ (n : Nat) (v : Value), n ≤ k + m ∧ i = .int .i64 n ∧ Hid (Bk wr w.heap.size 24 #[.int .i64 0, .slice none 0 0]) ∧ Hid (Bk wr (w.heap.size + 1) 24 #[.int .i64 1, v]) ∧
    Hid (OwnI wr (w.heap.size + 2) 3 v (upto n)) ∧ Hid (Below w.heap.size w wr)) (fun _ i _ => k + m - (intOf i).toNat)
  case atStart =>
    refine ⟨0, .slice none 0 0, Nat.zero_le _, rfl, B0, ?_, Lib.hid (Own.none_ _ _ _ _), Lib.hid (((Below.refl _ _).alloc (Nat.le_refl _) _).alloc (by simp) _)⟩
    have := B1.out
    simp only [World.size_alloc] at this
    exact this
  case round =>
    obtain ⟨n, v, hn, rfl, B2, B3, ho, hb⟩ := hrel
    clear B0 B1
    have hsz := B3.out.lt
    by_cases hlt : n < k + m
    · have hc1 := B3.out.cell 1
      have hlt' : (n : Int) < (k : Int) + (m : Int) := by omega
      simp at hc1
      go_wp2_with (at_builtin; refine wpList_append_one (f := i64v) (fun _ => rfl) (w.heap.size + 2) _ _ _ 3 (.int .i64 0) 8 rfl Try.underlying22 info_int rfl (by omega) v (upto n) (n : Int) _ rfl _ rfl rfl rfl ho.out ?c1 ?c2 rfl ?_)
      case c1 => omega
      case c2 => rw [upto_length]; omega
      intro v1 w1 ho1 hf1 hat1
      obtain ⟨A1, n1, cp1, rfl⟩ := ho1.shape
      have hv : ∀ j, some j = v.ownBlock → w.heap.size + 2 ≤ j := fun j e => (ho.out.base_le j e.symm).1
      have B4 := B2.out.fr hf1 (fun e => by have := hv _ e; omega)
      have B5 := B3.out.fr hf1 (fun e => by have := hv _ e; omega)
      have hb1 : Below w.heap.size w w1 := fr_below hb.out hf1 (fun j hj => by have := hv j hj.symm; omega)
      have hc2 := B5.cell 1
      have hfz := B5.frozen 1
      simp at hc2
      have B6 := Lib.hid (B5.set_ 1 (.slice A1 n1 cp1))
      have B7 := Lib.hid (B4.far (p := ⟨w.heap.size + 1, 1, none⟩) (by simp) (.slice A1 n1 cp1))
      have hb2 := Lib.hid (hb1.setCell (p := ⟨w.heap.size + 1, 1, none⟩) (by simp) (.slice A1 n1 cp1))
      have ho2 : Hid (OwnI (w1.setCell ⟨w.heap.size + 1, 1, none⟩ (.slice A1 n1 cp1)) (w.heap.size + 2) 3 (.slice A1 n1 cp1) (upto (n + 1))) := by
        rw [upto_succ]
        exact ho1.keep ((Fr.refl _ _).setCell (fun _ e => by have := (ho1.base_le _ e).1; simp at this) _)
      clear B4 B5 hb1 ho1 hf1 hat1 hv ho
      go_wp2_with fail
      go_roundw
      case rel => exact ⟨n + 1, _, by omega, by go_num, B7, B6, ho2, hb2⟩
      case measure => simp [intOf]; omega
    · obtain rfl : n = k + m := by omega
      have hlt' : ¬ ((k : Int) + (m : Int) < (k : Int) + (m : Int)) := by omega
      have hc0 := B3.out.cell 0
      have hc1 := B3.out.cell 1
      have hd0 := B2.out.cell 0
      have hd1 := B2.out.cell 1
      have hf0 := B2.out.frozen 0
      have hf1 := B2.out.frozen 1
      simp at hc0 hc1 hd0 hd1
      obtain ⟨A1, n1, cp1, rfl⟩ := ho.out.shape
      have B6 := (B2.out.set_ 0 (.int .i64 1)).set_ 1 (.slice A1 n1 cp1)
      have e0 := B6.cell 0
      have e1 := B6.cell 1
      simp at e0 e1
      have hb2 := Lib.hid ((hb.out.setCell (p := ⟨w.heap.size, 0, none⟩) (by simp) (.int .i64 1)).setCell (p := ⟨w.heap.size, 1, none⟩) (by simp) (.slice A1 n1 cp1))
      have ho2 := Lib.hid (ho.out.keep (((Fr.refl _ _).setCell (p := ⟨w.heap.size, 0, none⟩) (fun _ e => by have := (ho.out.base_le _ e).1; simp at this; omega) (.int .i64 1)).setCell (p := ⟨w.heap.size, 1, none⟩) (fun _ e => by have := (ho.out.base_le _ e).1; simp at this; omega) (.slice A1 n1 cp1)))
      clear B6
      go_wp2_with fail
      refine bodyPost_ret (v := .agg #[.int .i64 1, .slice A1 n1 cp1]) (by simp [results, Try.results13, go_sem, e0, e1]) rfl ⟨_, rfl, ?_, hb2.out⟩
      obtain ⟨h1, h2⟩ := ho2.out
      refine ⟨h1, ?_⟩
      rcases h2 with h2 | ⟨g, cap, cur, h3, h4, h5⟩
      · exact .inl h2
      · exact .inr ⟨g, cap, cur, h3, by omega, h5⟩
end Go.Proofs.Ytgmiilkdkhlolaa
