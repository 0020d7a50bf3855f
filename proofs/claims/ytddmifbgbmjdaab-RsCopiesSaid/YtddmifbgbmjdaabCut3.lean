/- The law's cut and even. -/
import Derived.Test.YtddmifbgbmjdaabLaw03
set_option linter.unusedVariables false
set_option linter.unusedSimpArgs false
namespace Go.Proofs.Ytddmifbgbmjdaab
open Go.RowKit

def cut3 (mo : Nat) (M : List (List UInt8)) : List (List UInt8) := (M.take mo).map (·.take 20)
theorem rows_push3 {P : Nat → Prop} {w : World} {T : List (List UInt8)} {rs : List Value} {nv : Value} {k : Nat} (hl : rs.length = k) (h : ∀ i (h : i < rs.length) (h2 : i < T.length), Bytes P w rs[i] (T[i].take 20)) (hk : k < T.length) (hn : Bytes P w nv (T[k].take 20)) :
    ∀ i (h : i < (rs ++ [nv]).length) (h2 : i < T.length), Bytes P w (rs ++ [nv])[i] (T[i].take 20) := by
  intro i h1 h2
  rcases Nat.lt_or_ge i rs.length with hi | hi
  · rw [List.getElem_append_left hi]
    exact h i hi h2
  · have : i = k := by simp at h1; omega
    subst this
    rw [List.getElem_append_right hi]
    simpa using hn
theorem cut3_reads {w wr : World} {M : List (List UInt8)} {mo N : Nat} {x : Value} {rs : List Value} (hl : rs.length = N) (hT : (M.take mo).length = N) (ho : Own id wr w.heap.size 27 x rs) (hr : ∀ i (h : i < rs.length) (h2 : i < (M.take mo).length), Bytes (· < w.heap.size) w rs[i] ((M.take mo)[i].take 20)) (hb : Below w.heap.size w wr) :
    MatR (fun _ => True) wr x (cut3 mo M) := by
  refine ⟨rs, by unfold cut3; rw [List.length_map]; omega, ho.reads.mono fun _ _ => trivial, fun i h1 h2 => ?_⟩
  have h3 : i < (M.take mo).length := by omega
  have e : (cut3 mo M)[i] = (M.take mo)[i].take 20 := by simp [cut3]
  rw [e]
  exact ((hr i h1 h3).fr (Fr.of_below hb _) fun _ h => h).mono fun _ _ => trivial
set_option maxHeartbeats 8000000 in
theorem cut3_calls (mo : Nat) (hmo : mo ≤ 100) (v : Value) (M : List (List UInt8)) (P : Nat → Prop) (w : World) (hv : MatR P w v M) :
    Calls Try.prog 32 #[v, .int .i64 (mo : Int)] w fun e w' => ∃ x, e = .returned x ∧ MatR (fun _ => True) w' x (cut3 mo M) ∧ Below w.heap.size w w' := by
  have HA0 : Hid (MatR (· < w.heap.size) w v M) := hv.there.mono fun k hk => hk.2
  obtain ⟨A, c, rfl, hl, hm⟩ := hv.shape
  clear hv
  have H0 : Hid (Own id (w.alloc (.cells #[] 27)) w.heap.size 27 (.slice (some ⟨w.heap.size, 0, none⟩) 0 0) []) := Own.empty id w _ _ (Nat.le_refl _)
  have HB0 : Hid (Below w.heap.size w (w.alloc (.cells #[] 27))) := (Below.refl _ _).alloc (Nat.le_refl _) _
  by_cases hbig : mo < M.length
  · have hbig' : (mo : Int) < (M.length : Int) := by omega
    have hc12 : (mo : Int) ≤ (c : Int) := by omega
    have HT : Hid ((M.take mo).length = mo) := Lib.hid (by rw [List.length_take]; omega)
    have HA : Hid (MatR (· < w.heap.size) w (.slice A mo c) (M.take mo)) := Lib.hid (HA0.out.cut mo (by omega))
    clear HA0
    go_enter Try.func32, Try.ntmps32
    go_wp2_with fail
    go_loopw [5, 6, 7] (fun x i _ wr => ∃ (k : Nat) (rs : List Value), k ≤ mo ∧ i = .int .i64 k ∧ Hid (rs.length = k) ∧ Hid (Own id wr w.heap.size 27 x rs) ∧ Hid (∀ i (h : i < rs.length) (h2 : i < (M.take mo).length), Bytes (· < w.heap.size) w rs[i] ((M.take mo)[i].take 20)) ∧ Hid (Below w.heap.size w wr)) (fun _ i _ _ => mo - (intOf i).toNat)
    case atStart => exact ⟨0, [], Nat.zero_le _, rfl, rfl, H0, fun i h => absurd h (by simp), HB0⟩
    case round =>
      obtain ⟨k, rs, hk, rfl, HK, HO, HR, HB⟩ := hrel
      obtain ⟨Av, cv, rfl⟩ : ∃ A c, u5 = .slice A k c := by
        obtain ⟨A, c, e, _⟩ := HO.out.reads
        exact ⟨A, c, by rw [e, HK.out]⟩
      clear H0 HB0
      have hsz := HB.out.size
      by_cases hlt : k < mo
      · have hlt' : (k : Int) < (mo : Int) := by omega
        have hkT : k < (M.take mo).length := by have := HT.out; omega
        obtain ⟨ad, rv0, rfl, hp, hcell0, hb⟩ := HA.out.at_ k hkT
        have hcell : wr.cell? (ad.add k) = some rv0 := by rw [HB.out.cell (World.block_lt_of_cell? _ _ hcell0)]; exact hcell0
        have Hpush := Lib.hid (fun nv (hn : Bytes (· < w.heap.size) w nv ((M.take mo)[k].take 20)) => rows_push3 HK.out HR.out hkT hn)
        generalize (M.take mo)[k] = l at *
        have Hb := Lib.hid hb
        obtain ⟨Ar, cr, rfl, hr1, -⟩ := hb
        clear hcell0
        by_cases hrow : 20 < l.length
        · have hrow' : (20 : Int) < (l.length : Int) := by omega
          have hcr12 : (20 : Int) ≤ (cr : Int) := by omega
          have Hb2 : Hid (Bytes (· < w.heap.size) w (.slice Ar 20 cr) (l.take 20)) := Lib.hid (Sl.cut Hb.out 20 (by omega))
          clear hr1
          go_wp2_with (at_builtin; refine wpList_append_ref w.heap.size _ _ rfl (.slice Av k cv) (.slice Ar 20 cr) rs HO.out ⟨_, _, _, rfl⟩ _ rfl rfl rfl hsz (by rw [HK.out]; omega) rfl ?_)
          intro v1 w2 ho2 hf2
          have HO2 := Lib.hid ho2
          have HR2 := Lib.hid (Hpush.out _ Hb2.out)
          have HK2 : Hid ((rs ++ [Value.slice Ar 20 cr]).length = k + 1) := Lib.hid (by rw [List.length_append, HK.out]; rfl)
          have HB2 : Hid (Below w.heap.size w w2) := Fr.after HB.out hf2 (fun j hj e => by have := HO.out.base_le j e.symm; omega)
          clear ho2 hf2 HO HR HK HB Hpush
          go_wp2_with fail
          go_roundw
          case rel => exact ⟨k + 1, _, by omega, by go_num, HK2, HO2, HR2, HB2⟩
          case measure => simp [intOf]; omega
        · have hrow' : (l.length : Int) ≤ 20 := by omega
          have Hb2 : Hid (Bytes (· < w.heap.size) w (.slice Ar l.length cr) (l.take 20)) := Lib.hid (by rw [List.take_of_length_le (by omega)]; exact Hb.out)
          clear hr1
          go_wp2_with (at_builtin; refine wpList_append_ref w.heap.size _ _ rfl (.slice Av k cv) (.slice Ar l.length cr) rs HO.out ⟨_, _, _, rfl⟩ _ rfl rfl rfl hsz (by rw [HK.out]; omega) rfl ?_)
          intro v1 w2 ho2 hf2
          have HO2 := Lib.hid ho2
          have HR2 := Lib.hid (Hpush.out _ Hb2.out)
          have HK2 : Hid ((rs ++ [Value.slice Ar l.length cr]).length = k + 1) := Lib.hid (by rw [List.length_append, HK.out]; rfl)
          have HB2 : Hid (Below w.heap.size w w2) := Fr.after HB.out hf2 (fun j hj e => by have := HO.out.base_le j e.symm; omega)
          clear ho2 hf2 HO HR HK HB Hpush
          go_wp2_with fail
          go_roundw
          case rel => exact ⟨k + 1, _, by omega, by go_num, HK2, HO2, HR2, HB2⟩
          case measure => simp [intOf]; omega
      · obtain rfl : k = mo := by omega
        go_wp2_with fail
        go_ret
        exact ⟨_, rfl, cut3_reads HK.out HT.out HO.out HR.out HB.out, HB.out⟩
  · have hbig' : (M.length : Int) ≤ (mo : Int) := by omega
    have HT : Hid ((M.take mo).length = M.length) := Lib.hid (by rw [List.length_take]; omega)
    have HA : Hid (MatR (· < w.heap.size) w (.slice A M.length c) (M.take mo)) := Lib.hid (by rw [List.take_of_length_le (by omega)]; exact HA0.out)
    clear HA0
    go_enter Try.func32, Try.ntmps32
    go_wp2_with fail
    go_loopw [5, 6, 7] (fun x i _ wr => ∃ (k : Nat) (rs : List Value), k ≤ M.length ∧ i = .int .i64 k ∧ Hid (rs.length = k) ∧ Hid (Own id wr w.heap.size 27 x rs) ∧ Hid (∀ i (h : i < rs.length) (h2 : i < (M.take mo).length), Bytes (· < w.heap.size) w rs[i] ((M.take mo)[i].take 20)) ∧ Hid (Below w.heap.size w wr)) (fun _ i _ _ => M.length - (intOf i).toNat)
    case atStart => exact ⟨0, [], Nat.zero_le _, rfl, rfl, H0, fun i h => absurd h (by simp), HB0⟩
    case round =>
      obtain ⟨k, rs, hk, rfl, HK, HO, HR, HB⟩ := hrel
      obtain ⟨Av, cv, rfl⟩ : ∃ A c, u5 = .slice A k c := by
        obtain ⟨A, c, e, _⟩ := HO.out.reads
        exact ⟨A, c, by rw [e, HK.out]⟩
      clear H0 HB0
      have hsz := HB.out.size
      by_cases hlt : k < M.length
      · have hlt' : (k : Int) < (M.length : Int) := by omega
        have hkT : k < (M.take mo).length := by have := HT.out; omega
        obtain ⟨ad, rv0, rfl, hp, hcell0, hb⟩ := HA.out.at_ k hkT
        have hcell : wr.cell? (ad.add k) = some rv0 := by rw [HB.out.cell (World.block_lt_of_cell? _ _ hcell0)]; exact hcell0
        have Hpush := Lib.hid (fun nv (hn : Bytes (· < w.heap.size) w nv ((M.take mo)[k].take 20)) => rows_push3 HK.out HR.out hkT hn)
        generalize (M.take mo)[k] = l at *
        have Hb := Lib.hid hb
        obtain ⟨Ar, cr, rfl, hr1, -⟩ := hb
        clear hcell0
        by_cases hrow : 20 < l.length
        · have hrow' : (20 : Int) < (l.length : Int) := by omega
          have hcr12 : (20 : Int) ≤ (cr : Int) := by omega
          have Hb2 : Hid (Bytes (· < w.heap.size) w (.slice Ar 20 cr) (l.take 20)) := Lib.hid (Sl.cut Hb.out 20 (by omega))
          clear hr1
          go_wp2_with (at_builtin; refine wpList_append_ref w.heap.size _ _ rfl (.slice Av k cv) (.slice Ar 20 cr) rs HO.out ⟨_, _, _, rfl⟩ _ rfl rfl rfl hsz (by rw [HK.out]; omega) rfl ?_)
          intro v1 w2 ho2 hf2
          have HO2 := Lib.hid ho2
          have HR2 := Lib.hid (Hpush.out _ Hb2.out)
          have HK2 : Hid ((rs ++ [Value.slice Ar 20 cr]).length = k + 1) := Lib.hid (by rw [List.length_append, HK.out]; rfl)
          have HB2 : Hid (Below w.heap.size w w2) := Fr.after HB.out hf2 (fun j hj e => by have := HO.out.base_le j e.symm; omega)
          clear ho2 hf2 HO HR HK HB Hpush
          go_wp2_with fail
          go_roundw
          case rel => exact ⟨k + 1, _, by omega, by go_num, HK2, HO2, HR2, HB2⟩
          case measure => simp [intOf]; omega
        · have hrow' : (l.length : Int) ≤ 20 := by omega
          have Hb2 : Hid (Bytes (· < w.heap.size) w (.slice Ar l.length cr) (l.take 20)) := Lib.hid (by rw [List.take_of_length_le (by omega)]; exact Hb.out)
          clear hr1
          go_wp2_with (at_builtin; refine wpList_append_ref w.heap.size _ _ rfl (.slice Av k cv) (.slice Ar l.length cr) rs HO.out ⟨_, _, _, rfl⟩ _ rfl rfl rfl hsz (by rw [HK.out]; omega) rfl ?_)
          intro v1 w2 ho2 hf2
          have HO2 := Lib.hid ho2
          have HR2 := Lib.hid (Hpush.out _ Hb2.out)
          have HK2 : Hid ((rs ++ [Value.slice Ar l.length cr]).length = k + 1) := Lib.hid (by rw [List.length_append, HK.out]; rfl)
          have HB2 : Hid (Below w.heap.size w w2) := Fr.after HB.out hf2 (fun j hj e => by have := HO.out.base_le j e.symm; omega)
          clear ho2 hf2 HO HR HK HB Hpush
          go_wp2_with fail
          go_roundw
          case rel => exact ⟨k + 1, _, by omega, by go_num, HK2, HO2, HR2, HB2⟩
          case measure => simp [intOf]; omega
      · obtain rfl : k = M.length := by omega
        go_wp2_with fail
        go_ret
        exact ⟨_, rfl, cut3_reads HK.out HT.out HO.out HR.out HB.out, HB.out⟩

set_option maxHeartbeats 4000000 in
theorem even3_calls (v : Value) (M : List (List UInt8)) (P : Nat → Prop) (w : World) (hv : MatR P w v M) :
    Calls Try.prog 34 #[v] w fun e w' => e = .returned (.bool (evenB M)) ∧ ∃ n, w' = w.drewN n := by
  have HA := Lib.hid hv
  obtain ⟨A, c, rfl, hl, hm⟩ := hv.shape
  clear hv
  go_enter Try.func34, Try.ntmps34
  go_wp2_with fail
  go_loopw [3] (fun i wr => ∃ k n : Nat, k ≤ M.length ∧ i = .int .i64 k ∧ wr = w.drewN n ∧ Hid (∀ j (h : j < M.length), j < k → M[j].length = (M.headD []).length)) (fun i _ => M.length - (intOf i).toNat)
  case atStart => exact ⟨0, 0, Nat.zero_le _, rfl, rfl, fun j _ hj => absurd hj (by omega)⟩
  case round =>
    obtain ⟨k, n, hk, rfl, rfl, hs⟩ := hrel
    by_cases hlt : k < M.length
    · have hlt' : (k : Int) < (M.length : Int) := by omega
      have h0 : 0 < M.length := by omega
      obtain ⟨ad, rv, rfl, hp, hcell, hb⟩ := HA.out.at_ k hlt
      obtain ⟨_, A0, c0, e, _, hcell0⟩ := HA.out.first h0
      cases e
      obtain ⟨A2, c2, rfl, -, -⟩ := hb
      obtain ⟨x, hx⟩ : ∃ x, M[k].length = x := ⟨_, rfl⟩
      obtain ⟨y, hy⟩ : ∃ y, (M.headD []).length = y := ⟨_, rfl⟩
      rw [hx] at hcell
      rw [hy] at hcell0
      have Hx := Lib.hid hx
      have Hy := Lib.hid hy
      clear hx hy
      by_cases hxy : x = y
      · subst hxy
        go_wp2_with fail
        go_quiet (fail)
        go_wp2_with fail
        go_roundw
        case rel => exact ⟨k + 1, _, by omega, by go_num, rfl, fun j h hj => by
          by_cases e : j = k
          · subst e; rw [Hx.out, Hy.out]
          · exact hs.out j h (by omega)⟩
        case measure => simp [intOf]; omega
      · have hxy' : ((x : Int) != (y : Int)) = true := by rw [bne_iff_ne]; omega
        have hr : evenB M = false := decide_eq_false (fun h => hxy (by rw [← Hx.out, ← Hy.out]; exact h _ (List.getElem_mem hlt)))
        go_wp2_with fail
        go_quiet (fail)
        go_wp2_with fail
        go_ret
        exact ⟨by rw [hr]; rfl, _, World.drewN_drewN ..⟩
    · have hr : evenB M = true := decide_eq_true (fun x hx => by
        obtain ⟨j, hj, rfl⟩ := List.getElem_of_mem hx
        exact hs.out j hj (by omega))
      go_wp2_with fail
      go_ret
      exact ⟨by rw [hr]; rfl, n, rfl⟩
end Go.Proofs.Ytddmifbgbmjdaab
