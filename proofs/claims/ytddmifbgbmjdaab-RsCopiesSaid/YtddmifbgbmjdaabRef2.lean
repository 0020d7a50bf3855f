/- The reference's One, Vander, Product; the law's cut. -/
import Derived.Test.YtddmifbgbmjdaabRef1
import Derived.Test.YtddmifbgbmjdaabOper
set_option linter.unusedVariables false
set_option linter.unusedSimpArgs false
namespace Go.Proofs.Ytddmifbgbmjdaab
open Go.RowKit

theorem map_push2 (k : Nat) (rm : Nat → Value) (nv : Value) : (List.range k).map rm ++ [nv] = (List.range (k + 1)).map fun i => if i = k then nv else rm i := by
  rw [List.range_succ, List.map_append]
  congr 1
  · exact List.map_congr_left fun i hi => by have := List.mem_range.1 hi; rw [if_neg (by omega)]
  · simp
theorem OwnMat.empty0 (w : World) (base : Nat) (hb : base ≤ w.heap.size) : OwnMat (w.alloc (.cells #[] 27)) base (.slice (some ⟨w.heap.size, 0, none⟩) 0 0) 0 (fun _ => .slice none 0 0) (fun _ => []) :=
  ⟨Own.empty id w _ base hb, fun i hi => absurd hi (by omega), fun i j hi => absurd hi (by omega)⟩
theorem OwnMat.nil0 (w : World) (base : Nat) : OwnMat w base (.slice none 0 0) 0 (fun _ => .slice none 0 0) (fun _ => []) :=
  ⟨Own.none_ _ _ _ _, fun i hi => absurd hi (by omega), fun i j hi => absurd hi (by omega)⟩
theorem OwnMat.shape {w : World} {base : Nat} {v : Value} {n : Nat} {rv : Nat → Value} {L : Nat → List UInt8} (h : OwnMat w base v n rv L) : ∃ A c, v = .slice A n c := by
  obtain ⟨A, c, e, _⟩ := h.top.reads
  simp only [List.length_map, List.length_range] at e
  exact ⟨A, c, e⟩
/-- A row of one's own comes to a matrix of one's own: behind 'at_builtin'. -/
theorem wpList_append_row {ops : Array Oper} {rest : List Oper} {o : Oper} {a : Act} {Q : Exit → Act → World → Prop} {w : World} (base : Nat) (s x : Operand)
    (ho : o.op = .call { callee := .builtin .append, args := #[s, x], argTypes := #[22, 22] }) (v nv : Value) (k : Nat) (rv : Nat → Value) (L : Nat → List UInt8) (l : List UInt8)
    (HO : OwnMat w base v k rv L) (HR : OwnB w base 5 nv l) (hne : ∀ i, i < k → ∀ b, (rv i).ownBlock = some b → nv.ownBlock ≠ some b) (hnv : ∃ A n c, nv = .slice A n c)
    (g : Nat) (hg : g = w.heap.size) (hs : a.eval s = v) (hx : a.eval x = .slice (some ⟨g, 0, none⟩) 1 1) (hbase : base ≤ w.heap.size) (hl : k ≤ 1000000) (hgo : Region.wanted o (yielded ops a.tmps) = true)
    (h : ∀ v1 w1, OwnMat w1 base v1 (k + 1) (fun i => if i = k then nv else rv i) (fun i => if i = k then l else L i) → Fr (fun j => some j ≠ v.ownBlock) w w1 → wpList Try.prog ops Q rest (a.put o.dst v1) w1) :
    wpList Try.prog ops Q (o :: rest) a (w.alloc (.cells #[nv] 27)) := by
  subst hg
  obtain ⟨A, n, c, rfl⟩ := hnv
  refine wpList_step fun K hK => ?_
  rw [if_pos hgo]
  have hb : Below w.heap.size w (w.alloc (.cells #[.slice A n c] 27)) := (Below.refl _ _).alloc (Nat.le_refl _) _
  have HOb := HO.keep_below hb
  have hRb := HR.keep (w' := w.alloc (.cells #[.slice A n c] 27)) (Fr.of_below hb _)
  refine oper_append_el (f := id) (R := fun j => w.heap.size ≤ j) base s x 22 27 (.slice none 0 0) 24 ho Try.underlying22 info_row rfl (by omega) v (.slice (some ⟨w.heap.size, 0, none⟩) 1 1) ((List.range k).map rv) [.slice A n c] (fun x hx => by simp at hx; subst hx; rfl) hs hx HOb.top (sl_lit id w _ (0, 0) [.slice A n c] _ _ _ _ rfl rfl (by simp) (by simp)) (by have := hb.size; omega) (by simp; omega) ?_
  intro v1 w1 ho1 hf1 had
  rw [map_push2] at ho1
  refine hK _ _ (h v1 w1 ⟨ho1, ?_⟩ (Fr.trans (Fr.of_below hb _) hf1))
  have hR1 := hRb.keep (w' := w1) (hf1.mono fun j _ hj e => own_apart HOb.top hRb (by decide) j e.symm hj)
  exact (HOb.rows.keep (w' := w1) (hf1.mono fun j _ ⟨i, hi, hj⟩ e => own_apart HOb.top (HOb.rows.row i hi) (by decide) j e.symm hj)).push _ _ hR1 hne
/-- What is appended to is the only thing that turns. -/
theorem OwnMat.top_ge {w : World} {base : Nat} {v : Value} {n : Nat} {rv : Nat → Value} {L : Nat → List UInt8} (h : OwnMat w base v n rv L) (j : Nat) (hj : some j = v.ownBlock) : base ≤ j ∧ j < w.heap.size := h.top.base_le j hj.symm

set_option maxHeartbeats 2000000 in
theorem rone_calls (n : Nat) (h2 : n ≤ 1000) (w : World) :
    Calls Try.prog 23 #[.int .i64 (n : Int)] w fun e w' => ∃ v rv, e = .returned v ∧ OwnMat w' w.heap.size v n rv (fun i => rowL n (oneF i)) ∧ Below w.heap.size w w' := by
  have H0 : Hid (OwnMat (w.alloc (.cells #[] 27)) w.heap.size (.slice (some ⟨w.heap.size, 0, none⟩) 0 0) 0 (fun _ => .slice none 0 0) (fun i => rowL n (oneF i))) := (OwnMat.empty0 w w.heap.size (Nat.le_refl _)).congr _ (fun i hi => absurd hi (by omega))
  have HB0 : Hid (Below w.heap.size w (w.alloc (.cells #[] 27))) := (Below.refl _ _).alloc (Nat.le_refl _) _
  go_enter Try.func23, Try.ntmps23
  go_wp2_with fail
  go_loopw [3, 4, 5] (fun v i _ wr => ∃ (k : Nat) (rv : Nat → Value), k ≤ n ∧ i = .int .i64 k ∧ Hid (OwnMat wr w.heap.size v k rv (fun i => rowL n (oneF i))) ∧ Hid (Below w.heap.size w wr)) (fun _ i _ _ => n - (intOf i).toNat)
  case atStart => exact ⟨0, _, Nat.zero_le _, rfl, H0, HB0⟩
  case round =>
    obtain ⟨k, rv, hk, rfl, HO, HB⟩ := hrel
    obtain ⟨Av, cv, rfl⟩ := HO.out.shape
    clear H0 HB0
    by_cases hlt : k < n
    · have hlt' : (k : Int) < (n : Int) := by omega
      have hsz := HB.out.size
      go_wp2_with (first
        | (at_make; refine wpList_make_sl (f := u8v) _ rfl _ _ _ 5 rfl wr.heap.size (.int .u8 0) 1 0 rfl rfl Try.underlying27 info_u8m n _ _ rfl rfl rfl rfl (by omega) (by omega) (Nat.le_refl _) ?_; intro w1 ho1 hb1; obtain ⟨u0, hcz, hfz⟩ : ∃ u0, w1.cell? ⟨wr.heap.size, k, none⟩ = some u0 ∧ w1.frozen? ⟨wr.heap.size, k, none⟩ = false := ⟨_, Own.cell ho1 k (by simp; exact hlt)⟩)
        | (at_builtin; refine wpList_append_row w.heap.size _ _ rfl (.slice Av k cv) (.slice (some ⟨wr.heap.size, 0, none⟩) n n) k rv (fun i => rowL n (oneF i)) (rowL n (oneF k)) ?c1 ?c2 ?c3 ⟨_, _, _, rfl⟩ _ ?c5 rfl rfl ?c4 (by omega) rfl ?_))
      case c1 => exact HO.out.keep_below (hb1.setCell (Nat.le_refl _) _)
      case c2 =>
        rw [replicate_rowL] at ho1
        have h := OwnB.stored ho1 k 1
        rw [rowL_set] at h
        exact Own.lower (by rw [show rowL n (oneF k) = rowL n (fun j => if j = k then 1 else 0) from rowL_congr _ _ _ fun j _ => by unfold oneF; by_cases e : k = j <;> simp [e, eq_comm]]; exact h) hsz
      case c3 =>
        intro i hi b hb e
        have h1 := (HO.out.rows.lt i hi b hb).2
        simp [Value.ownBlock] at e
        omega
      case c4 => have := hb1.size; simp [World.setCell]; omega
      case c5 => simp [World.setCell]
      intro v1 w2 ho2 hf2
      have HO2 := Lib.hid (ho2.congr (fun i => rowL n (oneF i)) (fun i _ => by by_cases e : i = k <;> simp [e]))
      have HB2 : Hid (Below w.heap.size w w2) := Fr.after ((HB.out.trans (hb1.mono hsz)).setCell hsz _) hf2 (fun j hj e => by have := HO.out.top_ge j e; omega)
      clear ho2 hf2 ho1 hb1
      go_wp2_with fail
      go_roundw
      case rel => exact ⟨k + 1, _, by omega, by go_num, HO2, HB2⟩
      case measure => simp [intOf]; omega
    · obtain rfl : k = n := by omega
      go_wp2_with fail
      go_ret
      exact ⟨_, rv, rfl, HO.out, HB.out⟩
theorem fr_below2 {B : Nat} {a w1 w2 : World} {row : Option Nat} (hb : Below B a w1) (hf : Fr (fun k => some k ≠ row) w1 w2) (hB : B ≤ a.heap.size) (hr : ∀ k, row = some k → B ≤ k) : Below B a w2 :=
  ⟨hf.os.trans hb.os, hf.tape.trans hb.tape, hf.output.trans hb.output, Nat.le_trans hb.size hf.size, fun k hk => (hf.block k (Nat.lt_of_lt_of_le (Nat.lt_of_lt_of_le hk hB) hb.size) (fun e => by have := hr k e.symm; omega)).trans (hb.block k hk)⟩
set_option maxHeartbeats 4000000 in
theorem rvander_calls (r c : Nat) (hr : r ≤ 256) (hc : c ≤ 256) (w : World) :
    Calls Try.prog 27 #[.int .i64 (r : Int), .int .i64 (c : Int)] w fun e w' => ∃ v rv, e = .returned v ∧ OwnMat w' w.heap.size v r rv (fun i => rowL c (fun j => gpow (UInt8.ofNat i) j)) ∧ Below w.heap.size w w' := by
  have H0 : Hid (OwnMat (w.alloc (.cells #[] 27)) w.heap.size (.slice (some ⟨w.heap.size, 0, none⟩) 0 0) 0 (fun _ => .slice none 0 0) (fun i => rowL c (fun j => gpow (UInt8.ofNat i) j))) := (OwnMat.empty0 w w.heap.size (Nat.le_refl _)).congr _ (fun i hi => absurd hi (by omega))
  have HB0 : Hid (Below w.heap.size w (w.alloc (.cells #[] 27))) := (Below.refl _ _).alloc (Nat.le_refl _) _
  go_enter Try.func27, Try.ntmps27
  go_wp2_with fail
  go_loopw [5, 6, 7, 8, 9] (fun v i _ _ _ wr => ∃ (k : Nat) (rv : Nat → Value), k ≤ r ∧ i = .int .i64 k ∧ Hid (OwnMat wr w.heap.size v k rv (fun i => rowL c (fun j => gpow (UInt8.ofNat i) j))) ∧ Hid (Below w.heap.size w wr)) (fun _ i _ _ _ _ => r - (intOf i).toNat)
  case atStart => exact ⟨0, _, Nat.zero_le _, rfl, H0, HB0⟩
  case round =>
    obtain ⟨k, rv, hk, rfl, HO, HB⟩ := hrel
    obtain ⟨Av, cv, rfl⟩ := HO.out.shape
    clear H0 HB0
    by_cases hlt : k < r
    · have hlt' : (k : Int) < (r : Int) := by omega
      have hsz := HB.out.size
      go_wp2_with fail
      have HR0 : Hid (OwnB (wr.alloc (.cells #[] 5)) wr.heap.size 5 (.slice (some ⟨wr.heap.size, 0, none⟩) 0 0) (rowL 0 (fun j => gpow (UInt8.ofNat k) j))) := OwnB.empty wr _ _ (Nat.le_refl _)
      have HW0 : Hid (Below wr.heap.size wr (wr.alloc (.cells #[] 5))) := (Below.refl _ _).alloc (Nat.le_refl _) _
      obtain ⟨wo, hwo⟩ : ∃ wo : World, wo = wr := ⟨_, rfl⟩
      subst hwo
      go_loopw [7, 8, 9] (fun v x j wr => ∃ m : Nat, m ≤ c ∧ j = .int .i64 m ∧ x = .int .u8 ((gpow (UInt8.ofNat k) m).toNat : Int) ∧ Hid (OwnB wr wo.heap.size 5 v (rowL m (fun j => gpow (UInt8.ofNat k) j))) ∧ Hid (Below wo.heap.size wo wr)) (fun _ _ j _ => c - (intOf j).toNat)
      case atStart => exact ⟨0, Nat.zero_le _, rfl, rfl, HR0, HW0⟩
      case round =>
        obtain ⟨m, hm, rfl, rfl, HR, HW⟩ := hrel
        obtain ⟨Ar, nr, cr, rfl⟩ := HR.out.shape
        have hszw := HW.out.size
        clear HR0 HW0
        by_cases hltm : m < c
        · have hltm' : (m : Int) < (c : Int) := by omega
          have Hg : Hid (gpow (UInt8.ofNat k) (m + 1) = gmul (gpow (UInt8.ofNat k) m) (UInt8.ofNat k)) := rfl
          have Hrow : Hid (rowL (m + 1) (fun j => gpow (UInt8.ofNat k) j) = rowL m (fun j => gpow (UInt8.ofNat k) j) ++ [gpow (UInt8.ofNat k) m]) := rowL_succ _ _
          generalize gpow (UInt8.ofNat k) m = q at *
          have Hm := Lib.hid (fun W => refmul8 q (UInt8.ofNat k) W)
          rw [ofNat_toNat8 k (by omega), ← Hg.out] at Hm
          go_wp2_with (at_builtin; refine wpList_append_one (f := u8v) (fun _ => rfl) wo.heap.size _ _ _ 5 (.int .u8 0) 1 rfl Try.underlying27 info_u8m rfl (by omega) (.slice Ar nr cr) (rowL m (fun j => gpow (UInt8.ofNat k) j)) q _ rfl _ rfl rfl rfl HR.out ?c1 ?c2 rfl ?_)
          case c1 => exact hszw
          case c2 => rw [rowL_length]; omega
          intro v1 w1 ho1 hf1 hat1
          rw [← Hrow.out] at ho1
          have HR1 := Lib.hid ho1
          have HW1 : Hid (Below wo.heap.size wo w1) := fr_below2 HW.out hf1 (Nat.le_refl _) (fun j e => (HR.out.base_le j e).1)
          clear ho1 hf1 hat1
          go_wp2_with fail
          refine (Hm.out _).mono ?_
          rintro e w4 ⟨rfl, rfl⟩
          go_wp2_with fail
          go_roundw
          case rel => exact ⟨m + 1, by omega, by go_num, rfl, HR1, HW1⟩
          case measure => simp [intOf]; omega
        · obtain rfl : m = c := by omega
          have hnr : nr = m := by
            have h := HR.out.reads
            obtain ⟨A', c', e, _⟩ := h
            simp only [Value.slice.injEq, rowL_length] at e
            exact e.2.1
          subst hnr
          go_wp2_with (at_builtin; refine wpList_append_row w.heap.size _ _ rfl (.slice Av k cv) (.slice Ar nr cr) k rv (fun i => rowL nr (fun j => gpow (UInt8.ofNat i) j)) (rowL nr (fun j => gpow (UInt8.ofNat k) j)) ?d1 ?d2 ?d3 ⟨_, _, _, rfl⟩ _ rfl rfl rfl ?d4 (by omega) rfl ?_)
          case d1 => exact HO.out.keep_below HW.out
          case d2 => exact Own.lower HR.out hsz
          case d3 => exact fun i hi b hb e => by have := (HO.out.rows.lt i hi b hb).2; have := (HR.out.base_le b e).1; omega
          case d4 => omega
          intro v1 w2 ho2 hf2
          have HO2 := Lib.hid (ho2.congr (fun i => rowL nr (fun j => gpow (UInt8.ofNat i) j)) (fun i _ => by by_cases e : i = k <;> simp [e]))
          have HB2 : Hid (Below w.heap.size w w2) := Fr.after (HB.out.trans (HW.out.mono hsz)) hf2 (fun j hj e => by have := HO.out.top_ge j e; omega)
          clear ho2 hf2
          go_wp2_with fail
          go_roundw
          case rel => exact ⟨k + 1, _, by omega, by go_num, HO2, HB2⟩
          case measure => simp [intOf]; omega
    · obtain rfl : k = r := by omega
      go_wp2_with fail
      go_ret
      exact ⟨_, rv, rfl, HO.out, HB.out⟩
end Go.Proofs.Ytddmifbgbmjdaab
