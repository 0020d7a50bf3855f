/- The reference's Product. -/
import Derived.Test.YtddmifbgbmjdaabRef2
set_option linter.unusedVariables false
set_option linter.unusedSimpArgs false
namespace Go.Proofs.Ytddmifbgbmjdaab
open Go.RowKit

theorem xor_b8 (a b : UInt8) : bits .xor .u8 (a.toNat : Int) (b.toNat : Int) = ((a ^^^ b).toNat : Int) := by rw [UInt8.toNat_xor]; exact u8_xor_nat _ _ a.toNat_lt b.toNat_lt
theorem put_step (c k : Nat) (f : Nat → UInt8) (hk : k < c) : (rowL c (fun j => if j < k then f j else 0)).set k (f k) = rowL c (fun j => if j < k + 1 then f j else 0) := by
  rw [rowL_set]
  refine rowL_congr _ _ _ fun j hj => ?_
  by_cases e : j = k
  · subst e; rw [if_pos rfl, if_pos (by omega)]
  · rw [if_neg e]
    by_cases e2 : j < k
    · rw [if_pos e2, if_pos (by omega)]
    · rw [if_neg e2, if_neg (by omega)]
set_option maxHeartbeats 4000000 in
theorem rproduct_calls (va vb : Value) (ra ca cb : Nat) (FA FB : Nat → Nat → UInt8) (P Q : Nat → Prop) (w : World) (ha : MatR P w va (tab ra ca FA)) (hb : MatR Q w vb (tab ca cb FB)) (h2 : 1 ≤ ca) (h4 : ra ≤ 1000) (h5 : ca ≤ 1000) (h6 : cb ≤ 1000) :
    Calls Try.prog 21 #[va, vb] w fun e w' => ∃ v rv, e = .returned v ∧ OwnMat w' w.heap.size v ra rv (fun i => rowL cb (mulF ca FA FB i)) ∧ Below w.heap.size w w' := by
  have HA : Hid (MatR (· < w.heap.size) w va (tab ra ca FA)) := ha.there.mono fun k hk => hk.2
  have HB : Hid (MatR (· < w.heap.size) w vb (tab ca cb FB)) := hb.there.mono fun k hk => hk.2
  clear ha hb
  obtain ⟨AA, cpa, rfl, ha1, ha2⟩ := HA.out.form
  obtain ⟨AB, cpb, rfl, hb1, hb2⟩ := HB.out.form
  have hb0 : (0 : Int) < (ca : Int) := by omega
  have H0 : Hid (OwnMat (w.alloc (.cells #[] 27)) w.heap.size (.slice (some ⟨w.heap.size, 0, none⟩) 0 0) 0 (fun _ => .slice none 0 0) (fun i => rowL cb (mulF ca FA FB i))) := (OwnMat.empty0 w w.heap.size (Nat.le_refl _)).congr _ (fun i hi => absurd hi (by omega))
  have HB0 : Hid (Below w.heap.size w (w.alloc (.cells #[] 27))) := (Below.refl _ _).alloc (Nat.le_refl _) _
  obtain ⟨b0, rvb0, rfl, hpb0, hcb0, hrb0⟩ := HB.out.row 0 (by omega)
  obtain ⟨B0, cpb0, rfl, _, _⟩ := hrb0
  rw [add_zero] at hcb0
  rw [rowL_length] at *
  have Hcb0 := Lib.hid hcb0
  clear hcb0
  go_enter Try.func21, Try.ntmps21
  go_wp2_with fail
  go_loopw [5, 6, 7, 8, 9, 10] (fun v i _ _ _ _ wr => ∃ (k : Nat) (rv : Nat → Value), k ≤ ra ∧ i = .int .i64 k ∧ Hid (OwnMat wr w.heap.size v k rv (fun i => rowL cb (mulF ca FA FB i))) ∧ Hid (Below w.heap.size w wr)) (fun _ i _ _ _ _ _ => ra - (intOf i).toNat)
  case atStart => exact ⟨0, _, Nat.zero_le _, rfl, H0, HB0⟩
  case round =>
    obtain ⟨i, rv, hk, rfl, HO, HW⟩ := hrel
    obtain ⟨Av, cv, rfl⟩ := HO.out.shape
    clear H0 HB0
    by_cases hlt : i < ra
    · have hlt' : (i : Int) < (ra : Int) := by omega
      have hsz := HW.out.size
      have hcb0 : wr.cell? b0 = some (.slice B0 cb cpb0) := by rw [HW.out.cell hpb0]; exact Hcb0.out
      obtain ⟨a0, rva, e, hpa, hca, hra⟩ := (HA.out.fr (Fr.of_below HW.out (fun _ => True)) (fun _ _ => trivial)).row i hlt
      subst e
      have HRa := Lib.hid hra
      obtain ⟨Aa, cpa2, rfl, -, -⟩ := hra
      rw [rowL_length] at *
      go_wp2_with (at_make; refine wpList_make_sl (f := u8v) _ rfl _ _ _ 5 rfl wr.heap.size (.int .u8 0) 1 0 rfl rfl Try.underlying27 info_u8m cb _ _ rfl rfl rfl rfl (by omega) (by omega) (Nat.le_refl _) ?_; intro w1 ho1 hb1)
      have HR0 : Hid (OwnB w1 wr.heap.size 5 (.slice (some ⟨wr.heap.size, 0, none⟩) cb cb) (rowL cb (fun j => if j < 0 then mulF ca FA FB i j else 0))) := by
        rw [replicate_rowL] at ho1
        rw [show rowL cb (fun j => if j < 0 then mulF ca FA FB i j else 0) = rowL cb (fun _ => 0) from rowL_congr _ _ _ fun j _ => by simp]
        exact ho1
      have HW0 : Hid (Below wr.heap.size wr w1) := hb1
      clear ho1 hb1
      obtain ⟨wo, hwo⟩ : ∃ wo : World, wo = wr := ⟨_, rfl⟩
      subst hwo
      go_loopw [8, 9, 10] (fun kv _ _ wr => ∃ k : Nat, k ≤ cb ∧ kv = .int .i64 k ∧ Hid (OwnB wr wo.heap.size 5 (.slice (some ⟨wo.heap.size, 0, none⟩) cb cb) (rowL cb (fun j => if j < k then mulF ca FA FB i j else 0))) ∧ Hid (Below wo.heap.size wo wr)) (fun kv _ _ _ => cb - (intOf kv).toNat)
      case atStart => exact ⟨0, Nat.zero_le _, rfl, HR0, HW0⟩
      case round =>
        obtain ⟨k, hk2, rfl, HR, HWr⟩ := hrel
        clear HR0 HW0
        have hszw := HWr.out.size
        by_cases hltk : k < cb
        · have hltk' : (k : Int) < (cb : Int) := by omega
          go_wp2_with fail
          obtain ⟨wk, hwk⟩ : ∃ wk : World, wk = wr := ⟨_, rfl⟩
          subst hwk
          go_loopw [9, 10] (fun x nv wr => ∃ t : Nat, t ≤ ca ∧ nv = .int .i64 t ∧ x = .int .u8 ((gsum t fun j => gmul (FA i j) (FB j k)).toNat : Int) ∧ Hid (Drawn wk wr)) (fun _ nv _ => ca - (intOf nv).toNat)
          case atStart => exact ⟨0, Nat.zero_le _, rfl, rfl, Drawn.refl wk⟩
          case round =>
            obtain ⟨t, ht, rfl, rfl, D⟩ := hrel
            by_cases hltt : t < ca
            · have hltt' : (t : Int) < (ca : Int) := by omega
              have hWk : Below w.heap.size w wk := HW.out.trans (HWr.out.mono hsz)
              obtain ⟨ad, rfl, hpx, hcx⟩ := bytes_at (HRa.out.fr (Fr.of_below HWr.out (fun j => j < wo.heap.size)) (fun j hj => by omega)) t hltt
              have hca2 : wk.cell? (a0.add i) = some (.slice (some ad) ca cpa2) := by
                rw [HWr.out.cell (World.block_lt_of_cell? wo _ hca)]; exact hca
              obtain ⟨b1, rvb, e, hpb, hcb, hrb⟩ := (HB.out.fr (Fr.of_below hWk (fun _ => True)) (fun _ _ => trivial)).row t hltt
              cases e
              obtain ⟨Ab, cpb2, rfl, hll, hrr⟩ := hrb
              obtain ⟨ad2, rfl, hpy, hcy⟩ := rd_at hrr k (by rw [rowL_length]; exact hltk)
              rw [rowL_get] at hcy
              rw [rowL_length] at *
              have Hs : Hid ((gsum (t + 1) fun j => gmul (FA i j) (FB j k)) = (gsum t fun j => gmul (FA i j) (FB j k)) ^^^ gmul (FA i t) (FB t k)) := rfl
              have Hx := Lib.hid (xor_b8 (gsum t fun j => gmul (FA i j) (FB j k)) (gmul (FA i t) (FB t k)))
              generalize FA i t = fa at *
              generalize FB t k = fb at *
              have Hm := Lib.hid (fun W => refmul8 fa fb W)
              generalize gmul fa fb = z at *
              generalize (gsum t fun j => gmul (FA i j) (FB j k)) = u at *
              have f1 := (D.out.cell _).trans hca2
              have f2 := (D.out.cell _).trans hcx
              have f3 := (D.out.cell _).trans hcb
              have f4 := (D.out.cell _).trans hcy
              clear hcb0 hca hll hrr hca2 hcx hcb hcy hWk
              go_wp2_with fail
              go_quiet ((go_at_call 36; exact Calls.quiet_of_same ((Hm.out _).mono fun _ _ h => ⟨h.1, h.2.symm⟩)))
              go_wp2_with fail
              go_roundw
              case rel => exact ⟨t + 1, by omega, by go_num, by rw [Hs.out, ← Hx.out], D.out.next _⟩
              case measure => simp [intOf]; omega
            · obtain rfl : t = ca := by omega
              obtain ⟨hc2, hz2⟩ := own_at HR.out k hltk
              have f2 := (D.out.cell _).trans hc2
              obtain ⟨dq, hD⟩ := D.out
              subst hD
              have hz3 : (wk.drewN dq).frozen? ⟨wo.heap.size, k, none⟩ = false := hz2
              have HR2 := Lib.hid (OwnB.stored (w := wk.drewN dq) (by exact HR.out) k (mulF t FA FB i k))
              rw [put_step cb k (mulF t FA FB i) hltk] at HR2
              have HW2 : Hid (Below wo.heap.size wo ((wk.drewN dq).setCell ⟨wo.heap.size, k, none⟩ (.int .u8 ((mulF t FA FB i k).toNat : Int)))) := (below_drewN HWr.out dq).setCell (Nat.le_refl _) _
              have e0 : Hid ((gsum t fun j => gmul (FA i j) (FB j k)) = mulF t FA FB i k) := rfl
              rw [e0.out]
              generalize mulF t FA FB i k = z at *
              clear hcb0 hca hc2 hz2 D
              go_wp2_with fail
              go_roundw
              case rel => exact ⟨k + 1, by omega, by go_num, HR2, HW2⟩
              case measure => simp [intOf]; omega
        · obtain rfl : k = cb := by omega
          have HR3 : Hid (OwnB wr wo.heap.size 5 (.slice (some ⟨wo.heap.size, 0, none⟩) k k) (rowL k (mulF ca FA FB i))) := by
            have := HR.out
            rw [show rowL k (fun j => if j < k then mulF ca FA FB i j else 0) = rowL k (mulF ca FA FB i) from rowL_congr _ _ _ fun j hj => if_pos hj] at this
            exact this
          go_wp2_with (at_builtin; refine wpList_append_row w.heap.size _ _ rfl (.slice Av i cv) (.slice (some ⟨wo.heap.size, 0, none⟩) k k) i rv (fun i => rowL k (mulF ca FA FB i)) (rowL k (mulF ca FA FB i)) ?d1 ?d2 ?d3 ⟨_, _, _, rfl⟩ _ rfl rfl rfl ?d4 (by omega) rfl ?_)
          case d1 => exact HO.out.keep_below HWr.out
          case d2 => exact Own.lower HR3.out hsz
          case d3 => exact fun j hj b hb e => by have := (HO.out.rows.lt j hj b hb).2; have := (HR3.out.base_le b e).1; omega
          case d4 => omega
          intro v1 w2 ho2 hf2
          have HO2 := Lib.hid (ho2.congr (fun i => rowL k (mulF ca FA FB i)) (fun j _ => by by_cases e : j = i <;> simp [e]))
          have HB2 : Hid (Below w.heap.size w w2) := Fr.after (HW.out.trans (HWr.out.mono hsz)) hf2 (fun j hj e => by have := HO.out.top_ge j e; omega)
          clear ho2 hf2
          go_wp2_with fail
          go_roundw
          case rel => exact ⟨i + 1, _, by omega, by go_num, HO2, HB2⟩
          case measure => simp [intOf]; omega
    · obtain rfl : i = ra := by omega
      go_wp2_with fail
      go_ret
      exact ⟨_, rv, rfl, HO.out, HW.out⟩
end Go.Proofs.Ytddmifbgbmjdaab
