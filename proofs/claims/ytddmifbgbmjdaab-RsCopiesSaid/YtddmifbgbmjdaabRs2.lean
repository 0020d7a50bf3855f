/- The code: combine, even, Encode. -/
import Derived.Test.YtddmifbgbmjdaabRs1
set_option linter.unusedVariables false
set_option linter.unusedSimpArgs false
namespace Go.Proofs.Ytddmifbgbmjdaab
open Go.RowKit

set_option maxHeartbeats 4000000 in
theorem combine_calls (tg : Nat) (row vs : Value) (k len : Nat) (c : Nat → UInt8) (S : Nat → Nat → UInt8) (P Q : Nat → Prop) (w : World) (HT : TabAt w tg) (hr : Bytes Q w row (rowL k c)) (hs : MatR P w vs (tab k len S)) (h1 : 1 ≤ k) (h2 : k ≤ 1000) (h3 : len ≤ 1000) :
    Calls Try.prog 54 #[.pointer (some ⟨tg, 0, none⟩), row, vs] w fun e w' => ∃ v, e = .returned v ∧ OwnB w' w.heap.size 5 v (rowL len (fun b => gsum k fun i => gmul (c i) (S i b))) ∧ Below w.heap.size w w' := by
  have HT0 := Lib.hid HT
  have HR0 : Hid (Bytes (· < w.heap.size) w row (rowL k c)) := hr.there.mono fun j hj => hj.2
  have HS0 : Hid (MatR (· < w.heap.size) w vs (tab k len S)) := hs.there.mono fun j hj => hj.2
  have htg := HT.lt
  clear HT hr hs
  obtain ⟨AS, cs, rfl, hcs, -⟩ := HS0.out.form
  obtain ⟨AR, cr, rfl, hcr, -⟩ := HR0.out
  rw [rowL_length] at *
  obtain ⟨a0, rv0, rfl, hp0, hc0, hr0⟩ := HS0.out.row 0 (by omega)
  obtain ⟨A0, cp0, rfl, _, _⟩ := hr0
  rw [add_zero] at hc0
  rw [rowL_length] at *
  have hk0 : (0 : Int) < (k : Int) := by omega
  go_enter Try.func54, Try.ntmps54
  go_wp2_with (at_make; refine wpList_make_sl (f := u8v) _ rfl _ _ _ 5 rfl w.heap.size (.int .u8 0) 1 0 rfl rfl Try.underlying27 info_u8m len _ _ rfl rfl rfl rfl (by omega) (by omega) (Nat.le_refl _) ?_; intro w1 ho1 hb1)
  have HO1 : Hid (OwnB w1 w.heap.size 5 (.slice (some ⟨w.heap.size, 0, none⟩) len len) (rowL len (fun b => gsum 0 fun i => gmul (c i) (S i b)))) := by
    rw [replicate_rowL] at ho1
    exact ho1
  have HB1 := Lib.hid hb1
  clear ho1 hb1 hc0
  go_loopw [8, 9, 10, 11, 19] (fun _ _ _ _ iv wr => ∃ i : Nat, i ≤ k ∧ iv = .int .i64 i ∧ Hid (OwnB wr w.heap.size 5 (.slice (some ⟨w.heap.size, 0, none⟩) len len) (rowL len (fun b => gsum i fun j => gmul (c j) (S j b)))) ∧ Hid (Below w.heap.size w wr)) (fun _ _ _ _ iv _ => k - (intOf iv).toNat)
  case atStart => exact ⟨0, Nat.zero_le _, rfl, HO1, HB1⟩
  case round =>
    obtain ⟨i, hi, rfl, HO, HB⟩ := hrel
    clear HO1 HB1
    by_cases hlt : i < k
    · have hlt' : (i : Int) < (k : Int) := by omega
      obtain ⟨ad, rfl, hpx, hcx⟩ := bytes_at (HR0.out.fr (Fr.of_below HB.out (fun _ => True)) (fun _ _ => trivial)) i hlt
      obtain ⟨_, rvs, e, hps, hcs2, hrs⟩ := (HS0.out.fr (Fr.of_below HB.out (fun _ => True)) (fun _ _ => trivial)).row i hlt
      cases e
      have HRs := Lib.hid hrs
      obtain ⟨As, cps, rfl, -, -⟩ := hrs
      rw [rowL_length] at *
      have Hsum : Hid ((fun b => gsum (i + 1) fun j => gmul (c j) (S j b)) = fun b => (gsum i fun j => gmul (c j) (S j b)) ^^^ gmul (c i) (S i b)) := rfl
      go_wp2_with fail
      obtain ⟨wo, hwo⟩ : ∃ wo : World, wo = wr := ⟨_, rfl⟩
      subst hwo
      have HOs : Hid (OwnB wo w.heap.size 5 (.slice (some ⟨w.heap.size, 0, none⟩) len len) (rowL len (fun b => if b < 0 then (gsum i fun j => gmul (c j) (S j b)) ^^^ gmul (c i) (S i b) else gsum i fun j => gmul (c j) (S j b)))) := Lib.hid (by simpa using HO.out)
      generalize hf : (fun b => gsum i fun j => gmul (c j) (S j b)) = f at *
      have HOs2 : Hid (OwnB wo w.heap.size 5 (.slice (some ⟨w.heap.size, 0, none⟩) len len) (rowL len (fun b => if b < 0 then f b ^^^ gmul (c i) (S i b) else f b))) := by rw [← hf]; exact HOs.out
      have Hsum2 : Hid ((fun b => gsum (i + 1) fun j => gmul (c j) (S j b)) = fun b => f b ^^^ gmul (c i) (S i b)) := by rw [← hf]; exact Hsum.out
      have Hf := Lib.hid hf
      clear hf HO HOs Hsum hcx hcs2
      have hwsz := HB.out.size
      go_loopw [10, 11, 29] (fun _ _ nv wr => ∃ n : Nat, n ≤ len ∧ nv = .int .i64 n ∧ Hid (OwnB wr w.heap.size 5 (.slice (some ⟨w.heap.size, 0, none⟩) len len) (rowL len (fun b => if b < n then f b ^^^ gmul (c i) (S i b) else f b))) ∧ Hid (Fr (fun j => j ≠ w.heap.size) wo wr)) (fun _ _ nv _ => len - (intOf nv).toNat)
      case atStart => exact ⟨0, Nat.zero_le _, rfl, HOs2, Fr.refl _ _⟩
      case round =>
        obtain ⟨n, hn, rfl, HO, HF⟩ := hrel
        clear HOs2
        by_cases hltn : n < len
        · have hltn' : (n : Int) < (len : Int) := by omega
          obtain ⟨ads, rfl, hpy, hcy⟩ := bytes_at (HRs.out.fr HF.out (fun j hj => by omega)) n hltn
          obtain ⟨hco, hzo⟩ := own_at HO.out n hltn
          rw [if_neg (Nat.lt_irrefl n)] at hco
          have HTr : Hid (TabAt wr tg) := (HT0.out.below HB.out htg).fr HF.out (by omega)
          have Hs := Lib.hid (line_step len f (S i) (c i) n hltn)
          have Hst := Lib.hid (fun (W : World) (hW : OwnB W w.heap.size 5 (.slice (some ⟨w.heap.size, 0, none⟩) len len) (rowL len fun b => if b < n then f b ^^^ gmul (c i) (S i b) else f b)) => OwnB.stored hW n (f n ^^^ gmul (c i) (S i n)))
          rw [Hs.out] at Hst
          generalize hfn : f n = fn at *
          generalize hsn : S i n = sn at *
          have Hfn := Lib.hid hfn
          have Hsn := Lib.hid hsn
          clear hfn hsn
          have H57 := Lib.hid (fun W => add8 fn (gmul (c i) sn) W)
          generalize hz : fn ^^^ gmul (c i) sn = z at *
          clear hz
          go_wp2_with fail
          go_region_with (first | (go_at_call 58; refine (tmul8 tg (c i) sn _ (by exact HTr.out)).mono ?_; rintro e w4 ⟨rfl, n4, rfl⟩) | (go_at_call 57; refine (H57.out _).mono ?_; rintro e w4 ⟨rfl, rfl⟩))
          all_goals
            go_wp2_with fail
            go_roundw
            case rel => exact ⟨n + 1, by omega, by go_num, Lib.hid (Hst.out _ (by exact HO.out)), Lib.hid ((HF.out.drewN _).setCell (p := ⟨w.heap.size, n, none⟩) (fun _ => by simp) _)⟩
            case measure => simp [intOf]; omega
        · obtain rfl : n = len := by omega
          have HO2 : Hid (OwnB wr w.heap.size 5 (.slice (some ⟨w.heap.size, 0, none⟩) n n) (rowL n (fun b => gsum (i + 1) fun j => gmul (c j) (S j b)))) := by
            have := HO.out
            rw [line_end n f (S i) (c i)] at this
            rw [Hsum2.out]
            exact this
          have HB2 : Hid (Below w.heap.size w wr) := Fr.after HB.out HF.out (fun j hj => by omega)
          go_wp2_with fail
          go_roundw
          case rel => exact ⟨i + 1, by omega, by go_num, HO2, HB2⟩
          case measure => simp [intOf]; omega
    · obtain rfl : i = k := by omega
      go_wp2_with fail
      go_ret
      exact ⟨_, rfl, HO.out, HB.out⟩
/-! ### even -/
theorem even1_calls (g : Nat) (am : Addr) (N C : Nat) (A A0 : Option Addr) (n c n0 c0 : Nat) (w : World) (hbox : w.cell? ⟨g, 0, none⟩ = some (.slice (some am) N C)) (hN : 0 < N) (h0 : w.cell? am = some (.slice A0 n0 c0)) :
    Calls Try.prog 64 #[.slice A n c, .pointer (some ⟨g, 0, none⟩)] w fun e w' => e = .returned (.bool ((n : Int) != (n0 : Int))) ∧ w = w' := by
  have hN' : (0 : Int) < (N : Int) := by omega
  go_enter Try.func64, Try.ntmps64
  go_wp2_with fail
  go_ret
  exact ⟨rfl, rfl⟩
instance (M : List (List UInt8)) (c : Nat) : Decidable (Rect M c) := by unfold Rect; exact inferInstance
def evenB (M : List (List UInt8)) : Bool := decide (Rect M (M.headD []).length)
theorem any_even {M : List (List UInt8)} : (!anyB (fun r => (r.length : Int) != ((M.headD []).length : Int)) M) = evenB M := by
  unfold anyB evenB
  by_cases h : Rect M (M.headD []).length
  · rw [decide_eq_true h]
    have : M.any (fun r => (r.length : Int) != ((M.headD []).length : Int)) = false := by
      rw [List.any_eq_false]
      intro x hx
      simp [h x hx]
    rw [this]; rfl
  · rw [decide_eq_false h]
    have : M.any (fun r => (r.length : Int) != ((M.headD []).length : Int)) = true := by
      rw [List.any_eq_true]
      apply Classical.byContradiction
      intro hn
      refine h fun x hx => ?_
      apply Classical.byContradiction
      intro hne
      exact hn ⟨x, hx, by rw [bne_iff_ne]; omega⟩
    rw [this]; rfl
set_option maxHeartbeats 1000000 in
theorem even_calls (v : Value) (M : List (List UInt8)) (P : Nat → Prop) (w : World) (hv : MatR P w v M) (h0 : 0 < M.length) :
    Calls Try.prog 53 #[v] w fun e w' => e = .returned (.bool (evenB M)) ∧ Below w.heap.size w w' := by
  have Hv := Lib.hid hv
  obtain ⟨A, c, rfl, hl, hm⟩ := hv.shape
  clear hv
  have hmf : ∀ (fn : Fn) (first cap : Array Value) (w : World), (Instr.makeFunc fn first cap).run Try.prog w = .ok (.func fn first cap) w := fun _ _ _ _ => rfl
  obtain ⟨am, A0, c0, rfl, hp, hcell⟩ := Hv.out.first h0
  have hcell2 := ((Below.refl w.heap.size w).alloc (Nat.le_refl _) (.cells #[.slice (some am) M.length c] 22)).cell (World.block_lt_of_cell? w _ hcell)
  rw [hcell] at hcell2
  have Hr := Lib.hid (any_even (M := M))
  have HM : Hid (MatR P (w.alloc (.cells #[.slice (some am) M.length c] 22)) (.slice (some am) M.length c) M) := Hv.out.below ((Below.refl _ _).alloc (Nat.le_refl _) _)
  have Hc2 := Lib.hid hcell2
  have hbox : Hid ((w.alloc (.cells #[.slice (some am) M.length c] 22)).cell? ⟨w.heap.size, 0, none⟩ = some (.slice (some am) M.length c)) := (Bk.new w 22 _).cell 0
  generalize (M.headD []).length = n0 at *
  clear hcell hcell2
  go_enter Try.func53, Try.ntmps53
  go_wp2_with fail
  refine (contf_calls 64 (enters_fn Try.func64 (by kernel_rfl) rfl) _ _ M (fun r => (r.length : Int) != (n0 : Int)) P _ HM.out ?_).mono ?_
  · intro k hk rv hb
    obtain ⟨A3, c3, rfl, _, _⟩ := hb
    exact even1_calls w.heap.size am M.length c A3 A0 M[k].length c3 n0 c0 _ hbox.out h0 Hc2.out
  · rintro e w' ⟨rfl, rfl⟩
    go_wp2_with fail
    go_ret
    exact ⟨by rw [← Hr.out]; rfl, (Below.refl _ _).alloc (Nat.le_refl _) _⟩
end Go.Proofs.Ytddmifbgbmjdaab
