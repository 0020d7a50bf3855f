/- The walk of mat.Mul. -/
import Derived.Test.YtddmifbgbmjdaabMat3
import Derived.StillTailTactics
set_option linter.unusedVariables false
set_option linter.unusedSimpArgs false
namespace Go.Proofs.Ytddmifbgbmjdaab
open Go.RowKit

theorem tab_row (r c : Nat) (F : Nat → Nat → UInt8) (i : Nat) (h : i < (tab r c F).length) : (tab r c F)[i] = rowL c (F i) := by simp [tab]
theorem MatR.row {P : Nat → Prop} {w : World} {A : Option Addr} {n cp r c : Nat} {F : Nat → Nat → UInt8} (h : MatR P w (.slice A n cp) (tab r c F)) (k : Nat) (hk : k < r) : ∃ ad rv, A = some ad ∧ P ad.block ∧ w.cell? (ad.add k) = some rv ∧ Bytes P w rv (rowL c (F k)) := by
  obtain ⟨ad, rv, h1, h2, h3, h4⟩ := h.at_ k (by rw [tab_length]; exact hk)
  rw [tab_get] at h4
  exact ⟨ad, rv, h1, h2, h3, h4⟩
theorem MatR.form {P : Nat → Prop} {w : World} {v : Value} {r c : Nat} {F : Nat → Nat → UInt8} (h : MatR P w v (tab r c F)) : ∃ A cp, v = .slice A r cp ∧ r ≤ cp ∧ cp ≤ 9223372036854775807 := by
  obtain ⟨A, cp, e, h1, h2⟩ := h.shape
  rw [tab_length] at *
  exact ⟨A, cp, e, h1, h2⟩
theorem mmul_step (n c : Nat) (A B : Nat → Nat → UInt8) (k m : Nat) (i : Nat) :
    (if i = k then rowL c (fun j => gsum m (fun t => gmul (A k t) (B t j)) ^^^ gmul (A k m) (B m j)) else (if i < k then rowL c (mulF n A B i) else if i = k then rowL c (fun j => gsum m fun t => gmul (A k t) (B t j)) else rowL c fun _ => 0)) =
    (if i < k then rowL c (mulF n A B i) else if i = k then rowL c (fun j => gsum (m + 1) fun t => gmul (A k t) (B t j)) else rowL c fun _ => 0) := by
  by_cases e : i = k
  · subst e
    rw [if_pos rfl, if_neg (Nat.lt_irrefl i), if_pos rfl]
    rfl
  · rw [if_neg e, if_neg e, if_neg e]
set_option maxHeartbeats 4000000 in
theorem mmul_calls (va vb : Value) (ra ca cb : Nat) (FA FB : Nat → Nat → UInt8) (P Q : Nat → Prop) (w : World) (ha : MatR P w va (tab ra ca FA)) (hb : MatR Q w vb (tab ca cb FB)) (h1 : 1 ≤ ra) (h2 : 1 ≤ ca) (h3 : 1 ≤ cb) (h4 : ra ≤ 1000) (h5 : ca ≤ 1000) (h6 : cb ≤ 1000) :
    Calls Try.prog 16 #[va, vb] w fun e w' => ∃ v rv, e = .returned (.tuple #[v, .bool true]) ∧ OwnMat w' w.heap.size v ra rv (fun i => rowL cb (mulF ca FA FB i)) ∧ Below w.heap.size w w' := by
  have HA : Hid (MatR (· < w.heap.size) w va (tab ra ca FA)) := ha.there.mono fun k hk => hk.2
  have HB : Hid (MatR (· < w.heap.size) w vb (tab ca cb FB)) := hb.there.mono fun k hk => hk.2
  have SA : Hid (decide (Snd (tab ra ca FA)) = true) := decide_eq_true (snd_tab (by omega) (by omega))
  have SB : Hid (decide (Snd (tab ca cb FB)) = true) := decide_eq_true (snd_tab (by omega) (by omega))
  clear ha hb
  obtain ⟨AA, cpa, rfl, ha1, ha2⟩ := HA.out.form
  obtain ⟨AB, cpb, rfl, hb1, hb2⟩ := HB.out.form
  have ha0 : (0 : Int) < (ra : Int) := by omega
  have hb0 : (0 : Int) < (ca : Int) := by omega
  go_enter Try.func16, Try.ntmps16
  go_wp2_with fail
  refine (msound_calls _ _ _ _ HA.out).mono ?_
  rintro e w1 ⟨rfl, hb1⟩
  rw [SA.out]
  have HB1 := Lib.hid hb1
  clear hb1
  go_wp2_with fail
  refine (msound_calls _ _ _ _ (HB.out.fr (Fr.of_below HB1.out (fun _ => True)) (fun _ _ => trivial))).mono ?_
  rintro e w2 ⟨rfl, hb2⟩
  rw [SB.out]
  have HB2 : Hid (Below w.heap.size w w2) := HB1.out.trans (hb2.mono HB1.out.size)
  clear hb2 HB1
  obtain ⟨a0, rv0, rfl, hp0, hc0, hr0⟩ := (HA.out.fr (Fr.of_below HB2.out (fun _ => True)) (fun _ _ => trivial)).row 0 (by omega)
  obtain ⟨b0, rvb0, rfl, hpb0, hcb0, hrb0⟩ := (HB.out.fr (Fr.of_below HB2.out (fun _ => True)) (fun _ _ => trivial)).row 0 (by omega)
  obtain ⟨A0, cp0, rfl, _, _⟩ := hr0
  obtain ⟨B0, cpb0, rfl, _, _⟩ := hrb0
  rw [add_zero] at hc0 hcb0
  rw [rowL_length] at *
  have hne : ((ca : Int) != (ca : Int)) = false := by simp
  go_wp2_with fail
  refine (made_calls _).mono ?_
  rintro e w3 ⟨rfl, ht3, hb3⟩
  have HB3 : Hid (Below w.heap.size w w3) := HB2.out.trans (hb3.mono HB2.out.size)
  have HT3 := Lib.hid ht3
  have hs3 := ht3.lt
  have hs2 := HB2.out.size
  have hcb3 : w3.cell? b0 = some (.slice B0 cb cpb0) := by rw [hb3.cell (World.block_lt_of_cell? w2 _ hcb0)]; exact hcb0
  clear ht3 hb3 hc0 hcb0
  go_wp2_with fail
  refine (empty_calls ra cb (by omega) (by omega) _).mono ?_
  rintro e w4 ⟨v, rv, rfl, ho4, hb4⟩
  have HB4 : Hid (Below w.heap.size w w4) := HB3.out.trans (hb4.mono (by omega))
  have HT4 : Hid (TabAt w4 w2.heap.size) := HT3.out.below hb4 hs3
  obtain ⟨g, cv, rfl, -⟩ := ho4.at_ 0 (by omega)
  have HO4 := Lib.hid ho4
  clear ho4 hb4 hcb3 HT3 HB3
  go_wp2_with fail
  go_loopw [8, 9, 10, 11, 39] (fun _ _ _ _ i wr => ∃ k : Nat, k ≤ ra ∧ i = .int .i64 k ∧ Hid (OwnMat wr w3.heap.size (.slice (some ⟨g, 0, none⟩) ra cv) ra rv (fun i => if i < k then rowL cb (mulF ca FA FB i) else rowL cb fun _ => 0)) ∧ Hid (TabAt wr w2.heap.size) ∧ Hid (Below w.heap.size w wr)) (fun _ _ _ _ i _ => ra - (intOf i).toNat)
  case atStart => exact ⟨0, Nat.zero_le _, rfl, Lib.hid (HO4.out.congr _ fun i _ => by simp), HT4, HB4⟩
  case round =>
    obtain ⟨k, hk, rfl, HO, HT, HBw⟩ := hrel
    clear HO4 HT4 HB4
    by_cases hlt : k < ra
    · have hlt' : (k : Int) < (ra : Int) := by omega
      obtain ⟨_, rvk, h, hpk, hck, hrk⟩ := (HA.out.fr (Fr.of_below HBw.out (fun _ => True)) (fun _ _ => trivial)).row k hlt
      cases h
      obtain ⟨Ak, cpk, rfl, -, -⟩ := hrk
      have HRk : Hid (Bytes (· < w.heap.size) wr (.slice Ak (rowL ca (FA k)).length cpk) (rowL ca (FA k))) := by
        obtain ⟨_, rvk, h, _, hck2, hrk⟩ := (HA.out.fr (Fr.of_below HBw.out (fun _ => True)) (fun _ _ => trivial)).row k hlt
        cases h
        rw [hck] at hck2
        cases hck2
        exact hrk
      rw [rowL_length] at *
      go_wp2_with fail
      obtain ⟨wo, hwo⟩ : ∃ wo : World, wo = wr := ⟨_, rfl⟩
      subst hwo
      have HW : Hid (Below wo.heap.size wo wo) := Below.refl _ _
      go_loopw [10, 11, 46] (fun _ _ j wr => ∃ m : Nat, m ≤ ca ∧ j = .int .i64 m ∧ Hid (OwnMat wr w3.heap.size (.slice (some ⟨g, 0, none⟩) ra cv) ra rv (fun i => if i < k then rowL cb (mulF ca FA FB i) else if i = k then rowL cb (fun j => gsum m fun t => gmul (FA k t) (FB t j)) else rowL cb fun _ => 0)) ∧ Hid (TabAt wr w2.heap.size) ∧ Hid (Below w.heap.size w wr) ∧ Hid (Bytes (· < w.heap.size) wr (.slice Ak ca cpk) (rowL ca (FA k)))) (fun _ _ j _ => ca - (intOf j).toNat)
      case atStart => exact ⟨0, Nat.zero_le _, rfl, Lib.hid (HO.out.congr _ fun i _ => by by_cases e : i < k <;> simp [e, gsum]), HT, HBw, HRk⟩
      case round =>
        obtain ⟨m, hm, rfl, HO5, HT5, HB5, HR5⟩ := hrel
        by_cases hltm : m < ca
        · have hltm' : (m : Int) < (ca : Int) := by omega
          obtain ⟨ad, rfl, hpx, hcx⟩ := bytes_at HR5.out m hltm
          obtain ⟨_, rvb, h, hpb, hcb, hrb⟩ := (HB.out.fr (Fr.of_below HB5.out (fun _ => True)) (fun _ _ => trivial)).row m hltm
          cases h
          have HRb := Lib.hid hrb
          obtain ⟨Ab, cpb2, rfl, -, -⟩ := hrb
          obtain ⟨g', c', e1, hc1⟩ := HO5.out.at_ k hlt
          simp only [Value.slice.injEq, Option.some.injEq, Addr.mk.injEq, true_and, and_true] at e1
          obtain ⟨rfl, rfl⟩ := e1
          have hrow := HO5.out.rows.row k hlt
          simp only [Nat.lt_irrefl, if_false, if_true] at hrow
          obtain ⟨gk, ck, ek, hgk, hgk2, hck2⟩ := own_form hrow (by omega)
          have HRow := Lib.hid hrow
          rw [ek] at hc1
          have Hek := Lib.hid ek
          clear hrow ek
          rw [rowL_length] at *
          have HQ : Hid (∀ j, j < w.heap.size → some j ≠ (Value.slice (some ⟨gk, 0, none⟩) cb ck).ownBlock) := fun j hj e => by simp [Value.ownBlock] at e; omega
          have HG : Hid (some w2.heap.size ≠ (Value.slice (some ⟨gk, 0, none⟩) cb ck).ownBlock) := fun e => by simp [Value.ownBlock] at e; omega
          go_wp2_with fail
          go_region_with (go_at_call 43; refine (line_calls w2.heap.size _ _ cb (fun j => gsum m fun t => gmul (FA k t) (FB t j)) (FB m) w3.heap.size (FA k m) (· < w.heap.size) _ (by exact HT5.out) (by rw [← Hek.out]; exact HRow.out) (by exact HRb.out) HQ.out HG.out (by omega)).mono ?_; rintro e w6 ⟨rfl, hoL, hfL⟩)
          all_goals
            have hf6 : Fr (fun j => some j ≠ (Value.slice (some ⟨gk, 0, none⟩) cb ck).ownBlock) wr w6 := Fr.trans ((Fr.refl _ _).drew) hfL
            have HO6 := Lib.hid ((HO5.out.upd k hlt _ (by rw [Hek.out]; exact hoL) (by rw [Hek.out]; exact hf6)).congr _ (fun i _ => mmul_step ca cb FA FB k m i))
            have HT6 : Hid (TabAt w6 w2.heap.size) := HT5.out.fr hf6 HG.out
            have HB6 : Hid (Below w.heap.size w w6) := Fr.after HB5.out hf6 (fun j hj => HQ.out j hj)
            have HR6 : Hid (Bytes (· < w.heap.size) w6 (.slice (some ad) ca cpk) (rowL ca (FA k))) := HR5.out.fr hf6 (fun j hj => HQ.out j hj)
            clear hf6 hoL hfL
            go_wp2_with fail
            go_roundw
            case rel => exact ⟨m + 1, by omega, by go_num, HO6, HT6, HB6, HR6⟩
            case measure => simp [intOf]; omega
        · obtain rfl : m = ca := by omega
          go_wp2_with fail
          go_roundw
          case rel => exact ⟨k + 1, by omega, by go_num, Lib.hid (HO5.out.congr _ fun i _ => by
            by_cases e : i < k
            · rw [if_pos e, if_pos (by omega)]
            · by_cases e2 : i = k
              · subst e2; rw [if_neg e, if_pos rfl, if_pos (by omega)]; rfl
              · rw [if_neg e, if_neg e2, if_neg (by omega)]), HT5, HB5⟩
          case measure => simp [intOf]; omega
    · obtain rfl : k = ra := by omega
      go_wp2_with fail
      go_ret2
      refine ⟨_, rv, rfl, ⟨HO.out.top.lower (by omega), (HO.out.rows.congr _ fun i hi => by rw [if_pos hi]).lower (by omega)⟩, HBw.out⟩
theorem not_fit {A B : List (List UInt8)} (h : ¬ (Snd A ∧ Snd B ∧ (A.headD []).length = B.length)) : decide (Snd A) = false ∨ (decide (Snd A) = true ∧ decide (Snd B) = false) ∨ (Snd A ∧ Snd B ∧ (A.headD []).length ≠ B.length) := by
  by_cases a : Snd A
  · by_cases b : Snd B
    · exact .inr (.inr ⟨a, b, fun e => h ⟨a, b, e⟩⟩)
    · exact .inr (.inl ⟨decide_eq_true a, decide_eq_false b⟩)
  · exact .inl (decide_eq_false a)
set_option maxHeartbeats 4000000 in
theorem mmul_bad (va vb : Value) (A B : List (List UInt8)) (P Q : Nat → Prop) (w : World) (ha : MatR P w va A) (hb : MatR Q w vb B) (hn : ¬ (Snd A ∧ Snd B ∧ (A.headD []).length = B.length)) :
    Calls Try.prog 16 #[va, vb] w fun e w' => e = .returned (.tuple #[.slice none 0 0, .bool false]) ∧ Below w.heap.size w w' := by
  have HA := Lib.hid ha
  have HB := Lib.hid hb
  obtain ⟨AA, cpa, rfl, ha1, ha2⟩ := ha.shape
  obtain ⟨AB, cpb, rfl, hb1, hb2⟩ := hb.shape
  clear ha hb
  rcases not_fit hn with h | ⟨h, h'⟩ | ⟨h, h', h2⟩
  · have H := Lib.hid h
    clear h hn
    go_enter Try.func16, Try.ntmps16
    go_wp2_with fail
    refine (msound_calls _ _ _ _ HA.out).mono ?_
    rintro e w1 ⟨rfl, hb1⟩
    rw [H.out]
    go_wp2_with fail
    go_ret2
    exact ⟨rfl, hb1⟩
  · have H := Lib.hid h
    have H' := Lib.hid h'
    clear h hn h'
    go_enter Try.func16, Try.ntmps16
    go_wp2_with fail
    refine (msound_calls _ _ _ _ HA.out).mono ?_
    rintro e w1 ⟨rfl, hb1⟩
    rw [H.out]
    have HB1 := Lib.hid hb1
    clear hb1
    go_wp2_with fail
    refine (msound_calls _ _ _ _ (HB.out.below HB1.out)).mono ?_
    rintro e w2 ⟨rfl, hb2⟩
    rw [H'.out]
    have HB2 : Hid (Below w.heap.size w w2) := HB1.out.trans (hb2.mono HB1.out.size)
    clear hb2
    go_wp2_with fail
    go_ret2
    exact ⟨rfl, HB2.out⟩
  · have H : Hid (decide (Snd A) = true) := decide_eq_true h
    have H' : Hid (decide (Snd B) = true) := decide_eq_true h'
    have h0 := h.1
    have h0' := h'.1
    clear hn h'
    have ha0 : (0 : Int) < (A.length : Int) := by omega
    have hb0 : (0 : Int) < (B.length : Int) := by omega
    go_enter Try.func16, Try.ntmps16
    go_wp2_with fail
    refine (msound_calls _ _ _ _ HA.out).mono ?_
    rintro e w1 ⟨rfl, hb1⟩
    rw [H.out]
    have HB1 := Lib.hid hb1
    clear hb1
    go_wp2_with fail
    refine (msound_calls _ _ _ _ (HB.out.below HB1.out)).mono ?_
    rintro e w2 ⟨rfl, hb2⟩
    rw [H'.out]
    have HB2 : Hid (Below w.heap.size w w2) := HB1.out.trans (hb2.mono HB1.out.size)
    clear hb2
    obtain ⟨am, A0, c0, rfl, hp, hcell⟩ := (HA.out.below HB2.out).first h0
    have hne : (((A.headD []).length : Int) != (B.length : Int)) = true := by rw [bne_iff_ne]; omega
    generalize (A.headD []).length = n0 at *
    clear h2 h
    go_wp2_with fail
    go_ret2
    exact ⟨rfl, HB2.out⟩
end Go.Proofs.Ytddmifbgbmjdaab
