/- MatVandermonde, walked. -/
import Derived.Test.YtddmifbgbmjdaabSets
import Derived.Test.YtddmifbgbmjdaabPoly
import Derived.Test.YtddmifbgbmjdaabRank
import Derived.Test.YtddmifbgbmjdaabMatMulsLaw
set_option linter.unusedVariables false
set_option linter.unusedSimpArgs false
namespace Go.Proofs.Ytddmifbgbmjdaab
open Go.RowKit

theorem key_eq (x : UInt8) : (wrap64 (x.toNat : Int)).tmod 40 = ((x.toNat % 40 : Nat) : Int) := by
  have h := x.toNat_lt
  have e : wrap64 (x.toNat : Int) = (x.toNat : Int) := by
    unfold wrap64
    omega
  rw [e, Int.tmod_eq_emod_of_nonneg (by omega)]
  omega
theorem pick_mat {w1 w : World} {base b n : Nat} {v r : Value} {rv : Nat → Value} {gs : List Nat} (HV : OwnMat w1 base v 40 rv (fun i => rowL n fun j => gpow (UInt8.ofNat i) j)) (HO : Own id w b 27 r (gs.map rv)) (hb : Below w1.heap.size w1 w) (hg : ∀ j ∈ gs, j < 40) (hl : gs.length = n) :
    MatR (fun _ => True) w r (tab n n (fun i => vanF (gs.getD i 0))) := by
  refine ⟨gs.map rv, by simp [tab, hl], HO.reads.mono fun _ _ => trivial, fun i h1 h2 => ?_⟩
  have hi : i < gs.length := by simpa using h1
  have e2 : (tab n n (fun i => vanF (gs.getD i 0)))[i] = rowL n (fun j => gpow (UInt8.ofNat gs[i]) j) := by
    simp only [tab, List.getElem_map, List.getElem_range, vanF, List.getD_eq_getElem?_getD, List.getElem?_eq_getElem hi, Option.getD_some]
    rfl
  rw [e2, List.getElem_map]
  exact ((HV.rows.row gs[i] (hg _ (List.getElem_mem _))).reads.fr (Fr.of_below hb _) fun _ h => h).mono fun _ _ => trivial
theorem pick_free {n : Nat} {gs : List Nat} (hd : gs.Nodup) (hg : ∀ j ∈ gs, j < 40) (hl : gs.length = n) (x : Nat → UInt8) (hk : Ker n (fun i => vanF (gs.getD i 0)) x) (k : Nat) (h : k < n) : x k = 0 := by
  refine van_free n (fun i => gs.getD i 0) (fun i hi => ?_) (fun i j hi hj e => ?_) x hk k h
  · have hi' : i < gs.length := by omega
    have := hg _ (List.getElem_mem hi')
    simp only [List.getD_eq_getElem?_getD, List.getElem?_eq_getElem hi', Option.getD_some]
    omega
  · have hi' : i < gs.length := by omega
    have hj' : j < gs.length := by omega
    simp only [List.getD_eq_getElem?_getD, List.getElem?_eq_getElem hi', List.getElem?_eq_getElem hj', Option.getD_some] at e
    exact (List.getElem_inj hd).1 e
theorem rows_at {w : World} {base n c m : Nat} {A : Option Addr} {rv : Nat → Value} {L : Nat → List UInt8} (h : OwnMat w base (.slice A m c) n rv L) (k : Nat) (hk : k < n) : ∃ ad, A = some ad ∧ w.cell? (ad.add k) = some (rv k) := by
  obtain ⟨A', c', e, hl, hr⟩ := h.top.reads
  simp only [Value.slice.injEq] at e
  obtain ⟨rfl, -, -⟩ := e
  obtain ⟨ad, e, hp, hc⟩ := Rd.at2 hr k (by simpa using hk)
  exact ⟨ad, e, by simpa using hc⟩
set_option maxHeartbeats 8000000 in
set_option maxRecDepth 100000 in
theorem mat_vandermonde (cols : UInt8) (vp : Value) (picks : List UInt8) (w : World) (hp : Bytes (· < w.heap.size) w vp picks) :
    Calls Try.prog 7 #[.int .u8 (cols.toNat : Int), vp] w fun e w' => e = .returned (.bool true) ∧ Below w.heap.size w w' := by
  obtain ⟨n, hn⟩ : ∃ n, n = cols.toNat % 8 + 1 := ⟨_, rfl⟩
  have hn1 : 1 ≤ n := by omega
  have hn8 : n ≤ 8 := by omega
  have hmm := @run_makeMap Try.prog
  have HP0 := Lib.hid hp
  obtain ⟨Ap, cp, rfl, hlp, -⟩ := hp
  go_enter Try.func7, Try.ntmps7
  go_wp2_with fail
  have e : ((cols.toNat : Int) % 8 + 1 : Int) = (n : Int) := by omega
  rw [e]
  clear e hn
  refine (vander_calls 40 n (by omega) (by omega) hn1 (by omega) _).mono ?_
  rintro e w1 ⟨v, rv, rfl, hv, hb1⟩
  have HV := Lib.hid hv
  have HB1 := Lib.hid hb1
  have HP1 := Lib.hid (HP0.out.below hb1)
  obtain ⟨Av, cv, rfl⟩ := hv.shape
  clear hv hb1 HP0
  go_wp2_with fail
  have HO0 : Hid (Own id ((w1.alloc (.cells #[] 27)).alloc (.map #[] 0)) w1.heap.size 27 (.slice (some ⟨w1.heap.size, 0, none⟩) 0 0) (([] : List Nat).map rv)) := (Own.empty id w1 _ _ (Nat.le_refl _)).keep (Fr.of_below ((Below.refl _ _).alloc (Nat.le_refl _) _) _)
  have HS0 : Hid (SetM ((w1.alloc (.cells #[] 27)).alloc (.map #[] 0)) (w1.heap.size + 1) ([] : List Nat).length []) := by
    have := SetM.made (w1.alloc (.cells #[] 27))
    exact Lib.hid (by simpa using this)
  have HB0 : Hid (Below w1.heap.size w1 ((w1.alloc (.cells #[] 27)).alloc (.map #[] 0))) := ((Below.refl _ _).alloc (Nat.le_refl _) _).alloc (by simp) _
  generalize ((w1.alloc (.cells #[] 27)).alloc (.map #[] 0)) = w2 at *
  have hmb : w1.heap.size ≤ w1.heap.size + 1 := Nat.le_succ _
  generalize w1.heap.size + 1 = mb at *
  go_loopw [7, 9, 10] (fun r i _ wr => ∃ (q : Nat) (fs : List Nat), q ≤ picks.length ∧ i = .int .i64 q ∧ fs.Nodup ∧ (∀ j ∈ fs, j < 40) ∧ fs.length ≤ n ∧ Hid (Own id wr w1.heap.size 27 r (fs.map rv)) ∧ Hid (SetM wr mb fs.length fs) ∧ Hid (Below w1.heap.size w1 wr)) (fun _ i _ _ => picks.length - (intOf i).toNat)
  case atStart => exact ⟨0, [], Nat.zero_le _, rfl, List.nodup_nil, by simp, Nat.zero_le _, HO0, HS0, HB0⟩
  case round =>
    obtain ⟨q, fs, hq, rfl, hnd, hf40, hfn, HO, HS, HB⟩ := hrel
    clear HO0 HS0 HB0 hmm
    obtain ⟨Ar, cr, rfl⟩ : ∃ A c, u7 = .slice A fs.length c := by
      obtain ⟨A, c, e, _⟩ := HO.out.reads
      exact ⟨A, c, by simpa using e⟩
    have hsz := HB.out.size
    by_cases hlt : q < picks.length
    · by_cases hlf : fs.length < n
      · have hlt' : (q : Int) < (picks.length : Int) := by omega
        have hlf' : (fs.length : Int) < (n : Int) := by omega
        obtain ⟨A', c', e, _, hr⟩ := HP1.out.below HB.out
        simp only [Value.slice.injEq] at e
        obtain ⟨rfl, -, -⟩ := e
        obtain ⟨ad, rfl, _, hcell⟩ := rd_at hr q hlt
        clear hr
        obtain ⟨k, hk, hk40⟩ : ∃ k : Nat, (wrap64 (picks[q].toNat : Int)).tmod 40 = (k : Int) ∧ k < 40 := ⟨picks[q].toNat % 40, key_eq _, by omega⟩
        by_cases hin : k ∈ fs
        · have hd : decide (k ∈ fs) = true := decide_eq_true hin
          go_wp2_with (at_lookup; refine wpList_lookup_set _ rfl _ _ rfl mb fs.length fs HS.out rfl k (by omega) rfl ?_; rw [hd])
          go_roundw
          case rel => exact ⟨q + 1, fs, by omega, by go_num, hnd, hf40, hfn, HO, HS, HB⟩
          case measure => simp [intOf]; omega
        · have hd : decide (k ∈ fs) = false := decide_eq_false hin
          obtain ⟨av, rfl, hvk⟩ := rows_at HV.out k hk40
          obtain ⟨An, nn, cn, hrv⟩ := (HV.out.rows.row k hk40).shape
          rw [hrv] at hvk
          have hav : av.block < w1.heap.size := by have := World.block_lt_of_cell? _ _ hvk; rwa [add_block] at this
          have hvk2 : wr.cell? (av.add k) = some (.slice An nn cn) := (Fr.of_below HB.out (fun k => True)).cell trivial hvk
          go_wp2_with (first
            | (at_lookup; refine wpList_lookup_set _ rfl _ _ rfl mb fs.length fs HS.out rfl k (by omega) rfl ?_; rw [hd])
            | (at_mapUpdate; refine wpList_put_set _ rfl _ _ _ rfl mb fs.length fs HS.out (by omega) rfl k (by omega) rfl rfl ?_; intro w3 hs3 hf3; have hvk3 : w3.cell? (av.add k) = some (.slice An nn cn) := hf3.cell (by rw [add_block]; omega) hvk2)
            | (at_builtin; refine wpList_append_ref w1.heap.size _ _ rfl (.slice Ar fs.length cr) (.slice An nn cn) (fs.map rv) ?c1 ⟨_, _, _, rfl⟩ _ ?c5 rfl rfl ?c4 ?c6 rfl ?_))
          case c1 => exact HO.out.keep (hf3.mono fun j _ hj e => HS.out.not_row HO.out (by rw [← e]; exact hj.symm))
          case c5 => rfl
          case c4 => have := hf3.size; omega
          case c6 => simp; omega
          intro v1 w4 ho4 hf4
          have HO4 : Hid (Own id w4 w1.heap.size 27 v1 ((fs ++ [k]).map rv)) := Lib.hid (by simpa [hrv] using ho4)
          have HS4 : Hid (SetM w4 mb (fs ++ [k]).length (fs ++ [k])) := Lib.hid (by
            have := hs3.fr hf4 (HS.out.not_row HO.out)
            simpa using this)
          have HB4 : Hid (Below w1.heap.size w1 w4) := Fr.after (Fr.after HB.out hf3 (fun j hj => by omega)) hf4 (fun j hj e => by have := HO.out.base_le j e.symm; omega)
          clear ho4 hf4 hs3 hf3
          go_wp2_with fail
          go_roundw
          case rel => exact ⟨q + 1, fs ++ [k], by omega, by go_num, by
            rw [List.nodup_append]
            exact ⟨hnd, by simp, fun a ha b hb e => by simp at hb; subst hb; subst e; exact hin ha⟩, fun j hj => by
            rcases List.mem_append.1 hj with h | h
            · exact hf40 j h
            · simp at h; omega, by simp; omega, HO4, HS4, HB4⟩
          case measure => simp [intOf]; omega
      · have hlf' : decide ((fs.length : Int) < (n : Int)) = false := decide_eq_false (by omega)
        have hlt' : (q : Int) < (picks.length : Int) := by omega
        go_wp2_with fail
        obtain ⟨w3, hw3⟩ : ∃ w3 : World, w3 = wr := ⟨_, rfl⟩
        subst hw3
        clear hsz
        go_loopw [7, 11] (fun r i wr => ∃ (k : Nat) (gs : List Nat), k ≤ 40 ∧ i = .int .i64 k ∧ gs.Nodup ∧ (∀ j ∈ gs, j < 40) ∧ gs.length ≤ n ∧ (∀ j, j < k → j ∈ gs) ∧ (∀ j ∈ gs, j ∈ fs ∨ j < k) ∧ (∀ j ∈ fs, j ∈ gs) ∧ Hid (Own id wr w1.heap.size 27 r (gs.map rv)) ∧ Hid (SetM wr mb fs.length fs) ∧ Hid (Below w1.heap.size w1 wr)) (fun _ i _ => 40 - (intOf i).toNat)
        case atStart => exact ⟨0, fs, by omega, rfl, hnd, hf40, hfn, fun j hj => absurd hj (by omega), fun j hj => .inl hj, fun j hj => hj, HO, HS, HB⟩
        case round =>
          obtain ⟨k, gs, hk, rfl, hgd, hg40, hgn, hgk, hgf, hfg, HO2, HS2, HB2⟩ := hrel
          clear HO HS HB
          obtain ⟨Ag, cg, rfl⟩ : ∃ A c, u7 = .slice A gs.length c := by
            obtain ⟨A, c, e, _⟩ := HO2.out.reads
            exact ⟨A, c, by simpa using e⟩
          have hsz := HB2.out.size
          by_cases hk40 : k < 40
          · by_cases hlg : gs.length < n
            · have hlk' : (k : Int) < 40 := by omega
              have hlg' : (gs.length : Int) < (n : Int) := by omega
              by_cases hin : k ∈ fs
              · have hd : decide (k ∈ fs) = true := decide_eq_true hin
                go_wp2_with (at_lookup; refine wpList_lookup_set _ rfl _ _ rfl mb fs.length fs HS2.out rfl k (by omega) rfl ?_; rw [hd])
                go_roundw
                case rel => exact ⟨k + 1, gs, by omega, by go_num, hgd, hg40, hgn, fun j hj => by
                  rcases Nat.lt_or_ge j k with h | h
                  · exact hgk j h
                  · obtain rfl : j = k := by omega
                    exact hfg _ hin, fun j hj => by rcases hgf j hj with h | h; exact .inl h; exact .inr (by omega), hfg, HO2, HS2, HB2⟩
                case measure => simp [intOf]; omega
              · have hd : decide (k ∈ fs) = false := decide_eq_false hin
                obtain ⟨av, rfl, hvk⟩ := rows_at HV.out k hk40
                obtain ⟨An, nn, cn, hrv⟩ := (HV.out.rows.row k hk40).shape
                rw [hrv] at hvk
                have hvk2 : wr.cell? (av.add k) = some (.slice An nn cn) := (Fr.of_below HB2.out (fun k => True)).cell trivial hvk
                go_wp2_with (first
                  | (at_lookup; refine wpList_lookup_set _ rfl _ _ rfl mb fs.length fs HS2.out rfl k (by omega) rfl ?_; rw [hd])
                  | (at_builtin; refine wpList_append_ref w1.heap.size _ _ rfl (.slice Ag gs.length cg) (.slice An nn cn) (gs.map rv) ?c1 ⟨_, _, _, rfl⟩ _ ?c5 rfl rfl ?c4 ?c6 rfl ?_))
                case c1 => exact HO2.out
                case c5 => rfl
                case c4 => omega
                case c6 => simp; omega
                intro v1 w4 ho4 hf4
                have HO4 : Hid (Own id w4 w1.heap.size 27 v1 ((gs ++ [k]).map rv)) := Lib.hid (by simpa [hrv] using ho4)
                have HS4 : Hid (SetM w4 mb fs.length fs) := Lib.hid (HS2.out.fr hf4 (HS2.out.not_row HO2.out))
                have HB4 : Hid (Below w1.heap.size w1 w4) := Fr.after HB2.out hf4 (fun j hj e => by have := HO2.out.base_le j e.symm; omega)
                clear ho4 hf4
                go_wp2_with fail
                go_roundw
                case rel => exact ⟨k + 1, gs ++ [k], by omega, by go_num, by
                  rw [List.nodup_append]
                  exact ⟨hgd, by simp, fun a ha b hb e => by
                    simp at hb; subst hb; subst e
                    rcases hgf _ ha with h | h
                    · exact hin h
                    · omega⟩, fun j hj => by
                  rcases List.mem_append.1 hj with h | h
                  · exact hg40 j h
                  · simp at h; omega, by simp; omega, fun j hj => by
                  rcases Nat.lt_or_ge j k with h | h
                  · exact List.mem_append_left _ (hgk j h)
                  · exact List.mem_append_right _ (by simp; omega), fun j hj => by
                  rcases List.mem_append.1 hj with h | h
                  · rcases hgf j h with h | h
                    · exact .inl h
                    · exact .inr (by omega)
                  · simp at h; exact .inr (by omega), fun j hj => List.mem_append_left _ (hfg j hj), HO4, HS4, HB4⟩
                case measure => simp [intOf]; omega
            · have hgl : gs.length = n := by omega
              have HG : Hid (MatR (fun _ => True) wr (.slice Ag gs.length cg) (tab n n (fun i => vanF (gs.getD i 0)))) := Lib.hid (pick_mat HV.out HO2.out HB2.out hg40 hgl)
              have HW2 : Hid (Below w.heap.size w wr) := Lib.hid (HB1.out.trans (HB2.out.mono HB1.out.size))
              have hfree := Lib.hid (pick_free hgd hg40 hgl)
              clear HO2 HS2 HB2 HV HB1 HP1 hgf hgk hfg hgn hnd hf40 hfn hgd hg40
              generalize (fun i => vanF (gs.getD i 0)) = FA at *
              rw [hgl] at *
              clear hgl hlg
              have hle : decide ((n : Int) < (n : Int)) = false := by simp
              go_wp2_with fail
              refine (inverse_calls _ n FA _ _ HG.out (by omega) (by omega)).mono ?_
              rintro e w5 ⟨(⟨x, rx, Fo, rfl, hox, hi1, hi2⟩ | ⟨rfl, x, c, hc, hx, hker⟩), hb5⟩
              · have HX5 := Lib.hid hox.mat
                have HG5 := Lib.hid (HG.out.below hb5)
                have HW5 : Hid (Below w.heap.size w w5) := HW2.out.trans (hb5.mono HW2.out.size)
                have HI2 : Hid (decide (tab n n (mulF n FA Fo) = tab n n oneF) = true) := decide_eq_true (tab_congr _ _ _ _ hi2)
                clear hox hi1 hi2 hb5 HG HW2
                obtain ⟨Ax, cx, rfl, -, -⟩ := HX5.out.form
                go_wp2_with fail
                refine (mmul_calls _ _ n n n FA Fo _ _ _ HG5.out HX5.out (by omega) (by omega) (by omega) (by omega) (by omega) (by omega)).mono ?_
                rintro e w6 ⟨p, rp, rfl, hop, hb6⟩
                have HP6 := Lib.hid hop.mat
                have HW6 : Hid (Below w.heap.size w w6) := HW5.out.trans (hb6.mono HW5.out.size)
                clear hop hb6 HG5 HX5
                go_wp2_with fail
                refine (awake02_calls _).mono ?_
                rintro e w7 ⟨rfl, hb7⟩
                have HP7 := Lib.hid (HP6.out.below hb7)
                have HW7 : Hid (Below w.heap.size w w7) := HW6.out.trans (hb7.mono HW6.out.size)
                clear hb7 HP6
                go_wp2_with fail
                refine (rone_calls n (by omega) _).mono ?_
                rintro e w8 ⟨o, ro, rfl, hoo, hb8⟩
                have HO8 := Lib.hid hoo.mat
                have HP8 := Lib.hid (HP7.out.below hb8)
                have HW8 : Hid (Below w.heap.size w w8) := HW7.out.trans (hb8.mono HW7.out.size)
                clear hoo hb8 HP7
                go_wp2_with fail
                refine (same_calls _ _ _ _ _ _ _ HP8.out HO8.out).mono ?_
                rintro e w9 ⟨rfl, n9, rfl⟩
                rw [HI2.out]
                go_wp2_with fail
                go_ret
                exact ⟨rfl, below_drewN HW8.out n9⟩
              · exact absurd (hfree.out x hker c hc) (by rw [hx]; decide)
          · have := covers 40 gs (fun j hj => hgk j (by omega))
            omega
    · have hlt' : decide ((q : Int) < (picks.length : Int)) = false := decide_eq_false (by omega)
      go_wp2_with fail
      obtain ⟨w3, hw3⟩ : ∃ w3 : World, w3 = wr := ⟨_, rfl⟩
      subst hw3
      clear hsz
      go_loopw [7, 11] (fun r i wr => ∃ (k : Nat) (gs : List Nat), k ≤ 40 ∧ i = .int .i64 k ∧ gs.Nodup ∧ (∀ j ∈ gs, j < 40) ∧ gs.length ≤ n ∧ (∀ j, j < k → j ∈ gs) ∧ (∀ j ∈ gs, j ∈ fs ∨ j < k) ∧ (∀ j ∈ fs, j ∈ gs) ∧ Hid (Own id wr w1.heap.size 27 r (gs.map rv)) ∧ Hid (SetM wr mb fs.length fs) ∧ Hid (Below w1.heap.size w1 wr)) (fun _ i _ => 40 - (intOf i).toNat)
      case atStart => exact ⟨0, fs, by omega, rfl, hnd, hf40, hfn, fun j hj => absurd hj (by omega), fun j hj => .inl hj, fun j hj => hj, HO, HS, HB⟩
      case round =>
        obtain ⟨k, gs, hk, rfl, hgd, hg40, hgn, hgk, hgf, hfg, HO2, HS2, HB2⟩ := hrel
        clear HO HS HB
        obtain ⟨Ag, cg, rfl⟩ : ∃ A c, u7 = .slice A gs.length c := by
          obtain ⟨A, c, e, _⟩ := HO2.out.reads
          exact ⟨A, c, by simpa using e⟩
        have hsz := HB2.out.size
        by_cases hk40 : k < 40
        · by_cases hlg : gs.length < n
          · have hlk' : (k : Int) < 40 := by omega
            have hlg' : (gs.length : Int) < (n : Int) := by omega
            by_cases hin : k ∈ fs
            · have hd : decide (k ∈ fs) = true := decide_eq_true hin
              go_wp2_with (at_lookup; refine wpList_lookup_set _ rfl _ _ rfl mb fs.length fs HS2.out rfl k (by omega) rfl ?_; rw [hd])
              go_roundw
              case rel => exact ⟨k + 1, gs, by omega, by go_num, hgd, hg40, hgn, fun j hj => by
                rcases Nat.lt_or_ge j k with h | h
                · exact hgk j h
                · obtain rfl : j = k := by omega
                  exact hfg _ hin, fun j hj => by rcases hgf j hj with h | h; exact .inl h; exact .inr (by omega), hfg, HO2, HS2, HB2⟩
              case measure => simp [intOf]; omega
            · have hd : decide (k ∈ fs) = false := decide_eq_false hin
              obtain ⟨av, rfl, hvk⟩ := rows_at HV.out k hk40
              obtain ⟨An, nn, cn, hrv⟩ := (HV.out.rows.row k hk40).shape
              rw [hrv] at hvk
              have hvk2 : wr.cell? (av.add k) = some (.slice An nn cn) := (Fr.of_below HB2.out (fun k => True)).cell trivial hvk
              go_wp2_with (first
                | (at_lookup; refine wpList_lookup_set _ rfl _ _ rfl mb fs.length fs HS2.out rfl k (by omega) rfl ?_; rw [hd])
                | (at_builtin; refine wpList_append_ref w1.heap.size _ _ rfl (.slice Ag gs.length cg) (.slice An nn cn) (gs.map rv) ?c1 ⟨_, _, _, rfl⟩ _ ?c5 rfl rfl ?c4 ?c6 rfl ?_))
              case c1 => exact HO2.out
              case c5 => rfl
              case c4 => omega
              case c6 => simp; omega
              intro v1 w4 ho4 hf4
              have HO4 : Hid (Own id w4 w1.heap.size 27 v1 ((gs ++ [k]).map rv)) := Lib.hid (by simpa [hrv] using ho4)
              have HS4 : Hid (SetM w4 mb fs.length fs) := Lib.hid (HS2.out.fr hf4 (HS2.out.not_row HO2.out))
              have HB4 : Hid (Below w1.heap.size w1 w4) := Fr.after HB2.out hf4 (fun j hj e => by have := HO2.out.base_le j e.symm; omega)
              clear ho4 hf4
              go_wp2_with fail
              go_roundw
              case rel => exact ⟨k + 1, gs ++ [k], by omega, by go_num, by
                rw [List.nodup_append]
                exact ⟨hgd, by simp, fun a ha b hb e => by
                  simp at hb; subst hb; subst e
                  rcases hgf _ ha with h | h
                  · exact hin h
                  · omega⟩, fun j hj => by
                rcases List.mem_append.1 hj with h | h
                · exact hg40 j h
                · simp at h; omega, by simp; omega, fun j hj => by
                rcases Nat.lt_or_ge j k with h | h
                · exact List.mem_append_left _ (hgk j h)
                · exact List.mem_append_right _ (by simp; omega), fun j hj => by
                rcases List.mem_append.1 hj with h | h
                · rcases hgf j h with h | h
                  · exact .inl h
                  · exact .inr (by omega)
                · simp at h; exact .inr (by omega), fun j hj => List.mem_append_left _ (hfg j hj), HO4, HS4, HB4⟩
              case measure => simp [intOf]; omega
          · have hgl : gs.length = n := by omega
            have HG : Hid (MatR (fun _ => True) wr (.slice Ag gs.length cg) (tab n n (fun i => vanF (gs.getD i 0)))) := Lib.hid (pick_mat HV.out HO2.out HB2.out hg40 hgl)
            have HW2 : Hid (Below w.heap.size w wr) := Lib.hid (HB1.out.trans (HB2.out.mono HB1.out.size))
            have hfree := Lib.hid (pick_free hgd hg40 hgl)
            clear HO2 HS2 HB2 HV HB1 HP1 hgf hgk hfg hgn hnd hf40 hfn hgd hg40
            generalize (fun i => vanF (gs.getD i 0)) = FA at *
            rw [hgl] at *
            clear hgl hlg
            have hle : decide ((n : Int) < (n : Int)) = false := by simp
            go_wp2_with fail
            refine (inverse_calls _ n FA _ _ HG.out (by omega) (by omega)).mono ?_
            rintro e w5 ⟨(⟨x, rx, Fo, rfl, hox, hi1, hi2⟩ | ⟨rfl, x, c, hc, hx, hker⟩), hb5⟩
            · have HX5 := Lib.hid hox.mat
              have HG5 := Lib.hid (HG.out.below hb5)
              have HW5 : Hid (Below w.heap.size w w5) := HW2.out.trans (hb5.mono HW2.out.size)
              have HI2 : Hid (decide (tab n n (mulF n FA Fo) = tab n n oneF) = true) := decide_eq_true (tab_congr _ _ _ _ hi2)
              clear hox hi1 hi2 hb5 HG HW2
              obtain ⟨Ax, cx, rfl, -, -⟩ := HX5.out.form
              go_wp2_with fail
              refine (mmul_calls _ _ n n n FA Fo _ _ _ HG5.out HX5.out (by omega) (by omega) (by omega) (by omega) (by omega) (by omega)).mono ?_
              rintro e w6 ⟨p, rp, rfl, hop, hb6⟩
              have HP6 := Lib.hid hop.mat
              have HW6 : Hid (Below w.heap.size w w6) := HW5.out.trans (hb6.mono HW5.out.size)
              clear hop hb6 HG5 HX5
              go_wp2_with fail
              refine (awake02_calls _).mono ?_
              rintro e w7 ⟨rfl, hb7⟩
              have HP7 := Lib.hid (HP6.out.below hb7)
              have HW7 : Hid (Below w.heap.size w w7) := HW6.out.trans (hb7.mono HW6.out.size)
              clear hb7 HP6
              go_wp2_with fail
              refine (rone_calls n (by omega) _).mono ?_
              rintro e w8 ⟨o, ro, rfl, hoo, hb8⟩
              have HO8 := Lib.hid hoo.mat
              have HP8 := Lib.hid (HP7.out.below hb8)
              have HW8 : Hid (Below w.heap.size w w8) := HW7.out.trans (hb8.mono HW7.out.size)
              clear hoo hb8 HP7
              go_wp2_with fail
              refine (same_calls _ _ _ _ _ _ _ HP8.out HO8.out).mono ?_
              rintro e w9 ⟨rfl, n9, rfl⟩
              rw [HI2.out]
              go_wp2_with fail
              go_ret
              exact ⟨rfl, below_drewN HW8.out n9⟩
            · exact absurd (hfree.out x hker c hc) (by rw [hx]; decide)
        · have := covers 40 gs (fun j hj => hgk j (by omega))
          omega
end Go.Proofs.Ytddmifbgbmjdaab
