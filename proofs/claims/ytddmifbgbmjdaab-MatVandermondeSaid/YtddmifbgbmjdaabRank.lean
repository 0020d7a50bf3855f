/- The rank as the law reckons it. -/
import Derived.Test.YtddmifbgbmjdaabLaw02
import Derived.BigRegion
import Derived.Test.YtddmifbgbmjdaabRegion
set_option linter.unusedVariables false
set_option linter.unusedSimpArgs false
namespace Go.Proofs.Ytddmifbgbmjdaab
open Go.RowKit

theorem OwnMat.cellAt {w : World} {base g c n : Nat} {rv : Nat → Value} {L : Nat → List UInt8} (h : OwnMat w base (.slice (some ⟨g, 0, none⟩) n c) n rv L) (k : Nat) (hk : k < n) : w.cell? ⟨g, k, none⟩ = some (rv k) ∧ w.frozen? ⟨g, k, none⟩ = false := by
  obtain ⟨h1, h2⟩ := Own.cell h.top k (by simp; exact hk)
  exact ⟨by rw [h1]; simp, h2⟩
theorem OwnMat.swap {w : World} {base g c n : Nat} {rv : Nat → Value} {N : Nat} {F : Nat → Nat → UInt8} (h : OwnMat w base (.slice (some ⟨g, 0, none⟩) n c) n rv (fun i => rowL N (F i))) (a b : Nat) (ha : a < n) (hb : b < n) :
    OwnMat ((w.setCell ⟨g, a, none⟩ (rv b)).setCell ⟨g, b, none⟩ (rv a)) base (.slice (some ⟨g, 0, none⟩) n c) n (swapV a b rv) (fun i => rowL N (swapF a b F i)) := by
  have hf : Fr (fun j => j ≠ g) w ((w.setCell ⟨g, a, none⟩ (rv b)).setCell ⟨g, b, none⟩ (rv a)) := ((Fr.refl _ _).setCell (fun _ => by simp) _).setCell (fun _ => by simp) _
  have ht := Own.stored (Own.stored h.top a (rv b)) b (rv a)
  rw [swap_hdr n a b rv ha hb] at ht
  refine ⟨ht, ?_⟩
  have h1 := h.rows.keep (w' := (w.setCell ⟨g, a, none⟩ (rv b)).setCell ⟨g, b, none⟩ (rv a)) (hf.mono fun j _ ⟨i, hi, hj⟩ e => own_apart h.top (h.rows.row i hi) (by decide) j (by rw [e]; rfl) hj)
  exact (h1.pull (swapI a b) (· < n) (fun i hi => swapI_lt ha hb hi) (fun i j _ _ hne => swapI_inj hne)).conv (fun i _ => (swapV_eq a b rv i).symm) (fun i _ => by rw [swapF_eq])
/-- The rows behind the pivot's have been gone through up to this one. -/
def lowTo (a c k : Nat) (F : Nat → Nat → UInt8) : Nat → Nat → UInt8 := fun i => if i < k then lowF a c F i else F i
theorem lowTo_step (a c k : Nat) (F : Nat → Nat → UInt8) (hk : a < k) (i j : Nat) : (if i = k then (fun j => F k j ^^^ gmul (gmul (F k c) (ginv (F a c))) (F a j)) else lowTo a c k F i) j = lowTo a c (k + 1) F i j := by
  unfold lowTo
  by_cases e : i = k
  · subst e
    rw [if_pos rfl, if_pos (by omega)]
    unfold lowF
    rw [if_neg (by omega)]
  · rw [if_neg e]
    by_cases h : i < k
    · rw [if_pos h, if_pos (by omega)]
    · rw [if_neg h, if_neg (by omega)]
theorem lowTo_row (a c k : Nat) (F : Nat → Nat → UInt8) : lowTo a c k F k = F k := by unfold lowTo; rw [if_neg (Nat.lt_irrefl k)]
theorem lowTo_a (a c k : Nat) (F : Nat → Nat → UInt8) : lowTo a c k F a = F a := by
  unfold lowTo
  split
  · unfold lowF; funext j; rw [if_pos (Nat.le_refl a)]
  · rfl
theorem lowTo_start (a c : Nat) (F : Nat → Nat → UInt8) (i j : Nat) : lowTo a c (a + 1) F i j = F i j := by
  unfold lowTo
  split
  · unfold lowF; rw [if_pos (by omega)]
  · rfl
theorem low_set (n : Nat) (f h : Nat → UInt8) (x : UInt8) (k : Nat) (hk : k < n) : (rowL n (fun j => if j < k then f j ^^^ gmul x (h j) else f j)).set k (f k ^^^ gmul x (h k)) = rowL n (fun j => if j < k + 1 then f j ^^^ gmul x (h j) else f j) := line_step n f h x k hk
set_option maxHeartbeats 16000000 in
set_option maxRecDepth 100000 in
theorem rank_calls (v : Value) (N : Nat) (FA : Nat → Nat → UInt8) (P : Nat → Prop) (w : World) (hv : MatR P w v (tab N N FA)) (h1 : 1 ≤ N) (h2 : N ≤ 12) (x : Nat → UInt8) (c : Nat) (hc : c < N) (hx : x c = 1) (hk : Ker N FA x) :
    Calls Try.prog 24 #[v] w fun e w' => (∃ r : Nat, e = .returned (.int .i64 (r : Int)) ∧ r < N) ∧ Below w.heap.size w w' := by
  have HA := Lib.hid hv
  have HK := Lib.hid hk
  have Hx := Lib.hid hx
  obtain ⟨AA, cpa, rfl, -, -⟩ := hv.form
  clear hv hk hx
  go_enter Try.func24, Try.ntmps24
  go_wp2_with fail
  refine (cut_calls _ (tab N N FA) _ _ HA.out).mono ?_
  rintro e w1 ⟨m, rv, rfl, hom, hb1⟩
  have ecut : cutL (tab N N FA) = tab N N FA := cutL_cut (by rw [tab_length]; omega) (fun y hy => by rw [rect_tab N N FA y hy]; omega)
  rw [ecut, tab_length] at hom
  have HO1 := Lib.hid (hom.congr (fun i => rowL N (FA i)) (fun i hi => tab_getD N N FA i hi))
  have HB1 := Lib.hid hb1
  clear hom hb1 ecut HA
  obtain ⟨g, cv, e, -⟩ := HO1.out.at_ 0 (by omega)
  subst e
  go_wp2_with fail
  go_loopw [3, 4, 5, 6, 7, 8] (fun nv cvv _ _ _ _ wr => ∃ (n col : Nat) (rv : Nat → Value) (F : Nat → Nat → UInt8), n ≤ col ∧ col ≤ N ∧ nv = .int .i64 n ∧ cvv = .int .i64 col ∧ Hid (OwnMat wr w.heap.size (.slice (some ⟨g, 0, none⟩) N cv) N rv (fun i => rowL N (F i))) ∧ Hid (Ker N F x) ∧ Hid (n = col → Tri N col F) ∧ Hid (Below w.heap.size w wr)) (fun _ cvv _ _ _ _ _ => N - (intOf cvv).toNat)
  case atStart => exact ⟨0, 0, rv, FA, Nat.le_refl _, Nat.zero_le _, rfl, rfl, HO1, HK, fun _ j hj => absurd hj (by omega), HB1⟩
  case round =>
    obtain ⟨n, col, rv, F, hn, hcol, rfl, rfl, HO, HKF, HT, HB⟩ := hrel
    clear HO1 HB1
    by_cases hlt : col < N
    · have hlt' : (col : Int) < (N : Int) := by omega
      go_wp2_with fail
      go_loop [5] (fun av => ∃ a : Nat, n ≤ a ∧ a ≤ N ∧ av = .int .i64 a) (fun av => N - (intOf av).toNat)
      case atStart => exact ⟨n, Nat.le_refl _, by omega, rfl⟩
      case round =>
        obtain ⟨a, ha, haN, rfl⟩ := hrel
        by_cases hla : a < N
        · have hla' : (a : Int) < (N : Int) := by omega
          obtain ⟨hca, hza⟩ := HO.out.cellAt a hla
          obtain ⟨ga, ca, ea, hga, -, -⟩ := own_form (HO.out.rows.row a hla) (by omega)
          obtain ⟨hc2, -⟩ := own_at (ea ▸ HO.out.rows.row a hla) col hlt
          rw [ea] at hca
          have Ea := Lib.hid ea
          clear ea
          by_cases hz : F a col = 0
          · have hz0 : (((F a col).toNat : Int) == 0) = true := by rw [hz]; rfl
            clear hz
            go_wp2_with fail
            go_round
            case rel => exact ⟨a + 1, by omega, by omega, by go_num⟩
            case measure => simp [intOf]; omega
          · have hz0 : (((F a col).toNat : Int) == 0) = false := by rw [u8_zero, decide_eq_false hz]
            have haN' : ((a : Int) == (N : Int)) = false := by rw [beq_eq_false_iff_ne]; omega
            have Hz := Lib.hid hz
            clear hz
            obtain ⟨hcn, hzn⟩ := HO.out.cellAt n (by omega)
            obtain ⟨gn, cn, en, hgn, -, -⟩ := own_form (HO.out.rows.row n (by omega)) (by omega)
            rw [en] at hcn
            have En := Lib.hid en
            clear en
            have hnN : (n : Int) < (N : Int) := by omega
            go_wp2_with fail
            clear hc2 hz0
            have hgb : w.heap.size ≤ g := (HO.out.top.base_le g rfl).1
            by_cases han : n = a
            · subst han
              go_region
              have HOs := Lib.hid ((HO.out.swap n n (by omega) (by omega)).keep_below (Below.refl _ _).drew)
              rw [En.out] at HOs
              have HK2 : Hid (Ker N (swapF n n F) x) := HKF.out.swap (by omega) (by omega)
              have HT2 : Hid (n = col → Tri N col (swapF n n F)) := fun e => by have h := HT.out e; subst e; exact h.swap ha hla
              have HP2 : Hid (swapF n n F n col ≠ 0) := by unfold swapF; rw [if_pos rfl]; exact Hz.out
              have HB2 := Lib.hid (((HB.out.setCell (p := ⟨g, n, none⟩) hgb (.slice (some ⟨gn, 0, none⟩) N cn)).setCell (p := ⟨g, n, none⟩) hgb (.slice (some ⟨gn, 0, none⟩) N cn)).drew)
              have hTT : True := trivial
              clear HO HKF HT HB hca hza hcn hzn Hz
              generalize swapF n _ F = G at HOs HK2 HT2 HP2
              generalize swapV n _ rv = rvs at HOs
              generalize World.drew _ = W at *
              go_wp2_with fail
              go_loopw [6, 7, 8] (fun iv _ _ wr => ∃ (i : Nat), n + 1 ≤ i ∧ i ≤ N ∧ iv = .int .i64 i ∧ Hid (OwnMat wr w.heap.size (.slice (some ⟨g, 0, none⟩) N cv) N rvs (fun r => rowL N (lowTo n col i G r))) ∧ Hid (Below w.heap.size w wr)) (fun iv _ _ _ => N - (intOf iv).toNat)
              case atStart => exact ⟨n + 1, Nat.le_refl _, by omega, by go_num, Lib.hid (HOs.out.congr _ (fun r _ => rowL_congr _ _ _ fun j _ => (lowTo_start n col G r j).symm)), HB2⟩
              case round =>
                obtain ⟨i, hi1, hi2, rfl, HO3, HB3⟩ := hrel
                clear HOs HB2
                by_cases hli : i < N
                · have hli' : (i : Int) < (N : Int) := by omega
                  obtain ⟨hci, -⟩ := HO3.out.cellAt i hli
                  obtain ⟨hcn, -⟩ := HO3.out.cellAt n (by omega)
                  obtain ⟨gi, ci, ei, hgi, -, -⟩ := own_form (HO3.out.rows.row i hli) (by omega)
                  obtain ⟨gn, cn, en, hgn, -, -⟩ := own_form (HO3.out.rows.row n (by omega)) (by omega)
                  obtain ⟨h3, -⟩ := own_at (ei ▸ HO3.out.rows.row i hli) col hlt
                  obtain ⟨h4, -⟩ := own_at (en ▸ HO3.out.rows.row n (by omega)) col hlt
                  rw [lowTo_row] at h3
                  rw [lowTo_a] at h4
                  rw [ei] at hci
                  rw [en] at hcn
                  have Ei := Lib.hid ei
                  have En := Lib.hid en
                  have Hap : Hid (gi ≠ gn) := fun e => HO3.out.rows.apart i n hli (by show n < N; omega) (by omega) gi (by rw [ei]; rfl) (by rw [en, e]; rfl)
                  clear ei en
                  have Hpw := Lib.hid (fun W => refpow8 (G n col) 254 (by omega) W)
                  have Hiv : Hid (gpow (G n col) 254 = ginv (G n col)) := rfl
                  rw [Hiv.out] at Hpw
                  have Hmu := Lib.hid (fun W => refmul8 (G i col) (ginv (G n col)) W)
                  have Hq : Hid (∀ j, (if True then G i j ^^^ gmul (gmul (G i col) (ginv (G n col))) (G n j) else 0) = G i j ^^^ gmul (gmul (G i col) (ginv (G n col))) (G n j)) := fun j => if_pos trivial
                  generalize hqq : gmul (G i col) (ginv (G n col)) = q at *
                  have Hqq := Lib.hid hqq
                  clear hqq
                  have hnN : (n : Int) < (N : Int) := by omega
                  go_wp2_with fail
                  go_quiet (first | (go_at_call 49; exact Calls.quiet_of_same ((Hpw.out _).mono fun _ _ h => ⟨h.1, h.2.symm⟩)) | (go_at_call 36; exact Calls.quiet_of_same ((Hmu.out _).mono fun _ _ h => ⟨h.1, h.2.symm⟩)))
                  have HO4 : Hid (OwnMat (wr.drewN nq) w.heap.size (.slice (some ⟨g, 0, none⟩) N cv) N rvs (fun r => if r = i then rowL N (fun j => if j < 0 then G i j ^^^ gmul q (G n j) else G i j) else rowL N (lowTo n col i G r))) := (HO3.out.keep_below (below_drewN (Below.refl _ _) nq)).congr _ (fun r _ => by
                    by_cases e : r = i
                    · subst e; rw [if_pos rfl]; exact rowL_congr _ _ _ fun j _ => by rw [lowTo_row]; simp
                    · rw [if_neg e])
                  have HB4 : Hid (Below w.heap.size w (wr.drewN nq)) := below_drewN HB3.out nq
                  clear h3 h4 hci hcn HO3 HB3 Hpw Hmu
                  generalize wr.drewN nq = W4 at *
                  go_wp2_with fail
                  go_loopw [8] (fun kv wr => ∃ t : Nat, t ≤ N ∧ kv = .int .i64 t ∧ Hid (OwnMat wr w.heap.size (.slice (some ⟨g, 0, none⟩) N cv) N rvs (fun r => if r = i then rowL N (fun j => if j < t then G i j ^^^ gmul q (G n j) else G i j) else rowL N (lowTo n col i G r))) ∧ Hid (Below w.heap.size w wr)) (fun kv _ => N - (intOf kv).toNat)
                  case atStart => exact ⟨0, Nat.zero_le _, rfl, HO4, HB4⟩
                  case round =>
                    obtain ⟨t, ht, rfl, HO5, HB5⟩ := hrel
                    clear HO4 HB4
                    by_cases hltt : t < N
                    · have hltt' : (t : Int) < (N : Int) := by omega
                      have hin : n ≠ i := by omega
                      obtain ⟨hci, -⟩ := HO5.out.cellAt i hli
                      obtain ⟨hcn, -⟩ := HO5.out.cellAt n (by omega)
                      have hri := HO5.out.rows.row i hli
                      have hrn := HO5.out.rows.row n (by omega)
                      simp only [if_true] at hri
                      rw [if_neg hin, lowTo_a] at hrn
                      rw [Ei.out] at hri hci
                      rw [En.out] at hrn hcn
                      obtain ⟨h3, hz3⟩ := own_at hri t hltt
                      obtain ⟨h4, -⟩ := own_at hrn t hltt
                      rw [if_neg (Nat.lt_irrefl t)] at h3
                      have HP := Lib.hid (HO5.out.put i hli gi N ci Ei.out t (G i t ^^^ gmul q (G n t)))
                      have HO6 := Lib.hid (HP.out.congr (fun r => if r = i then rowL N (fun j => if j < t + 1 then G i j ^^^ gmul q (G n j) else G i j) else rowL N (lowTo n col i G r)) (fun r _ => by
                        by_cases e : r = i
                        · rw [if_pos e, if_pos e, if_pos rfl]; exact low_set N (G i) (G n) q t hltt
                        · rw [if_neg e, if_neg e, if_neg e]))
                      have HB6 := Lib.hid (HB5.out.setCell (p := ⟨gi, t, none⟩) hgi (.int .u8 ((G i t ^^^ gmul q (G n t)).toNat : Int)))
                      have Hx8 := Lib.hid (xor_b8 (G i t) (gmul q (G n t)))
                      have Hm8 := Lib.hid (fun W => refmul8 q (G n t) W)
                      generalize gmul q (G n t) = z at HO6 HB6 Hx8 Hm8
                      generalize G i t ^^^ z = z2 at HO6 HB6 Hx8
                      clear HP hri hrn
                      go_wp2_with fail
                      have hS : (fun w' : World => w'.cell? ⟨g, i, none⟩ = some (.slice (some ⟨gi, 0, none⟩) N ci) ∧ w'.cell? ⟨gi, t, none⟩ = some (.int .u8 ((G i t).toNat : Int)) ∧ w'.cell? ⟨g, n, none⟩ = some (.slice (some ⟨gn, 0, none⟩) N cn) ∧ w'.cell? ⟨gn, t, none⟩ = some (.int .u8 ((G n t).toNat : Int))) wr.drew := ⟨hci, h3, hcn, h4⟩
                      have hT : (fun _ : World => True) wr.drew := trivial
                      have hz4 : wr.drew.frozen? ⟨gi, t, none⟩ = false := hz3
                      have HO7 : Hid (OwnMat (wr.drew.setCell ⟨gi, t, none⟩ (.int .u8 (z2.toNat : Int))) w.heap.size (.slice (some ⟨g, 0, none⟩) N cv) N rvs (fun r => if r = i then rowL N (fun j => if j < t + 1 then G i j ^^^ gmul q (G n j) else G i j) else rowL N (lowTo n col i G r))) := ⟨HO6.out.top, ⟨HO6.out.rows.row, HO6.out.rows.apart⟩⟩
                      have HB7 : Hid (Below w.heap.size w (wr.drew.setCell ⟨gi, t, none⟩ (.int .u8 (z2.toNat : Int)))) := ⟨HB6.out.os, HB6.out.tape, HB6.out.output, HB6.out.size, HB6.out.block⟩
                      refine OrdTo.begin_ (fun w' : World => w'.cell? ⟨g, i, none⟩ = some (.slice (some ⟨gi, 0, none⟩) N ci) ∧ w'.cell? ⟨gi, t, none⟩ = some (.int .u8 ((G i t).toNat : Int)) ∧ w'.cell? ⟨g, n, none⟩ = some (.slice (some ⟨gn, 0, none⟩) N cn) ∧ w'.cell? ⟨gn, t, none⟩ = some (.int .u8 ((G n t).toNat : Int))) (fun _ : World => True) 18 (by kernel_rfl) ?_
                      clear hci h3 hcn h4 hz3 HO6 HB6
                      generalize wr.drew = W5 at *
                      refine OrdTo.takePure 0 (v := ?vu0) rfl (by kernel_rfl) (fun _ _ _ h => h) (fun _ => by assumption) (by assumption) (by rfl) ?yu0 ?ru0
                      case yu0 => (intro w hTw; (try dsimp only at hTw); go_simp; try with_reducible rfl)
                      try simp only [Act.put, List.setIfInBounds_toArray, List.set_cons_zero, List.set_cons_succ]
                      refine OrdTo.takePure 1 (v := ?vu1) rfl (by kernel_rfl) (fun _ _ _ h => h) (fun _ => by assumption) (by assumption) (by rfl) ?yu1 ?ru1
                      case yu1 => (intro w hTw; (try dsimp only at hTw); go_simp; try with_reducible rfl)
                      try simp only [Act.put, List.setIfInBounds_toArray, List.set_cons_zero, List.set_cons_succ]
                      refine OrdTo.takePure 2 (v := ?vu2) rfl (by kernel_rfl) (fun _ _ _ h => h) (fun _ => by assumption) (by assumption) (by rfl) ?yu2 ?ru2
                      case yu2 => (intro w hTw; (try dsimp only at hTw); go_simp; try with_reducible rfl)
                      try simp only [Act.put, List.setIfInBounds_toArray, List.set_cons_zero, List.set_cons_succ]
                      refine OrdTo.take 3 (v := ?vu3) rfl (by kernel_rfl) (fun _ _ _ h => h) (by assumption) (by assumption) (by rfl) ?yu3 ?ru3
                      case yu3 => (intro w hSw hTw; (try dsimp only at hSw hTw); go_split_ands; go_simp; try with_reducible rfl)
                      try simp only [Act.put, List.setIfInBounds_toArray, List.set_cons_zero, List.set_cons_succ]
                      refine OrdTo.takePure 4 (v := ?vu4) rfl (by kernel_rfl) (fun _ _ _ h => h) (fun _ => by assumption) (by assumption) (by rfl) ?yu4 ?ru4
                      case yu4 => (intro w hTw; (try dsimp only at hTw); go_simp; try with_reducible rfl)
                      try simp only [Act.put, List.setIfInBounds_toArray, List.set_cons_zero, List.set_cons_succ]
                      refine OrdTo.takePure 5 (v := ?vu5) rfl (by kernel_rfl) (fun _ _ _ h => h) (fun _ => by assumption) (by assumption) (by rfl) ?yu5 ?ru5
                      case yu5 => (intro w hTw; (try dsimp only at hTw); go_simp; try with_reducible rfl)
                      try simp only [Act.put, List.setIfInBounds_toArray, List.set_cons_zero, List.set_cons_succ]
                      refine OrdTo.take 6 (v := ?vu6) rfl (by kernel_rfl) (fun _ _ _ h => h) (by assumption) (by assumption) (by rfl) ?yu6 ?ru6
                      case yu6 => (intro w hSw hTw; (try dsimp only at hSw hTw); go_split_ands; go_simp; try with_reducible rfl)
                      try simp only [Act.put, List.setIfInBounds_toArray, List.set_cons_zero, List.set_cons_succ]
                      refine OrdTo.takePure 7 (v := ?vu7) rfl (by kernel_rfl) (fun _ _ _ h => h) (fun _ => by assumption) (by assumption) (by rfl) ?yu7 ?ru7
                      case yu7 => (intro w hTw; (try dsimp only at hTw); go_simp; try with_reducible rfl)
                      try simp only [Act.put, List.setIfInBounds_toArray, List.set_cons_zero, List.set_cons_succ]
                      refine OrdTo.takePure 8 (v := ?vu8) rfl (by kernel_rfl) (fun _ _ _ h => h) (fun _ => by assumption) (by assumption) (by rfl) ?yu8 ?ru8
                      case yu8 => (intro w hTw; (try dsimp only at hTw); go_simp; try with_reducible rfl)
                      try simp only [Act.put, List.setIfInBounds_toArray, List.set_cons_zero, List.set_cons_succ]
                      refine OrdTo.takePure 9 (v := ?vu9) rfl (by kernel_rfl) (fun _ _ _ h => h) (fun _ => by assumption) (by assumption) (by rfl) ?yu9 ?ru9
                      case yu9 => (intro w hTw; (try dsimp only at hTw); go_simp; try with_reducible rfl)
                      try simp only [Act.put, List.setIfInBounds_toArray, List.set_cons_zero, List.set_cons_succ]
                      refine OrdTo.takePure 10 (v := ?vu10) rfl (by kernel_rfl) (fun _ _ _ h => h) (fun _ => by assumption) (by assumption) (by rfl) ?yu10 ?ru10
                      case yu10 => (intro w hTw; (try dsimp only at hTw); go_simp; try with_reducible rfl)
                      try simp only [Act.put, List.setIfInBounds_toArray, List.set_cons_zero, List.set_cons_succ]
                      refine OrdTo.take 11 (v := ?vu11) rfl (by kernel_rfl) (fun _ _ _ h => h) (by assumption) (by assumption) (by rfl) ?yu11 ?ru11
                      case yu11 => (intro w hSw hTw; (try dsimp only at hSw hTw); go_split_ands; go_simp; try with_reducible rfl)
                      try simp only [Act.put, List.setIfInBounds_toArray, List.set_cons_zero, List.set_cons_succ]
                      refine OrdTo.takePure 12 (v := ?vu12) rfl (by kernel_rfl) (fun _ _ _ h => h) (fun _ => by assumption) (by assumption) (by rfl) ?yu12 ?ru12
                      case yu12 => (intro w hTw; (try dsimp only at hTw); go_simp; try with_reducible rfl)
                      try simp only [Act.put, List.setIfInBounds_toArray, List.set_cons_zero, List.set_cons_succ]
                      refine OrdTo.takePure 13 (v := ?vu13) rfl (by kernel_rfl) (fun _ _ _ h => h) (fun _ => by assumption) (by assumption) (by rfl) ?yu13 ?ru13
                      case yu13 => (intro w hTw; (try dsimp only at hTw); go_simp; try with_reducible rfl)
                      try simp only [Act.put, List.setIfInBounds_toArray, List.set_cons_zero, List.set_cons_succ]
                      refine OrdTo.take 14 (v := ?vu14) rfl (by kernel_rfl) (fun _ _ _ h => h) (by assumption) (by assumption) (by rfl) ?yu14 ?ru14
                      case yu14 => (intro w hSw hTw; (try dsimp only at hSw hTw); go_split_ands; go_simp; try with_reducible rfl)
                      try simp only [Act.put, List.setIfInBounds_toArray, List.set_cons_zero, List.set_cons_succ]
                      refine OrdTo.step 15 rfl (by kernel_rfl) (by rfl) (fun K hK => ?_)
                      go_simp
                      refine (Hm8.out _).mono ?_
                      rintro e w6 ⟨rfl, rfl⟩
                      refine hK _ _ (fun _ => hS) hT ?_
                      clear hK K
                      try simp only [Act.put, List.setIfInBounds_toArray, List.set_cons_zero, List.set_cons_succ]
                      refine OrdTo.takePure 16 (v := ?vz16A) rfl (by kernel_rfl) (fun _ _ _ h => h) (fun _ => by assumption) (by assumption) (by rfl) ?yz16A ?rz16A
                      case yz16A => (intro w hTw; (try dsimp only at hTw); go_simp; try with_reducible rfl)
                      try simp only [Act.put, List.setIfInBounds_toArray, List.set_cons_zero, List.set_cons_succ]
                      rw [Hx8.out]
                      refine OrdTo.takePure 17 (v := ?vz17A) rfl (by kernel_rfl) (fun _ _ _ h => h) (fun _ => by assumption) (by assumption) (by rfl) ?yz17A ?rz17A
                      case yz17A => (intro w hTw; (try dsimp only at hTw); go_simp; try with_reducible rfl)
                      try simp only [Act.put, List.setIfInBounds_toArray, List.set_cons_zero, List.set_cons_succ]
                      refine OrdTo.step 18 rfl (by kernel_rfl) (by rfl) (fun K hK => ?_)
                      go_simp
                      refine hK _ _ (no_false (by kernel_rfl)) trivial ?_
                      clear hK K
                      try simp only [Act.put, List.setIfInBounds_toArray, List.set_cons_zero, List.set_cons_succ]
                      refine OrdTo.done (by kernel_rfl) ?_
                      go_wp2_with fail
                      go_roundw
                      case rel => exact ⟨t + 1, by omega, by go_num, HO7, HB7⟩
                      case measure => simp [intOf]; omega
                    · obtain rfl : t = N := by omega
                      have HO8 := Lib.hid (HO5.out.congr (fun r => rowL t (lowTo n col (i + 1) G r)) (fun r _ => by
                        by_cases e : r = i
                        · rw [if_pos e]
                          refine rowL_congr _ _ _ fun j hj => ?_
                          rw [if_pos hj, ← lowTo_step n col i G (by omega) r j, if_pos e, Hqq.out]
                        · rw [if_neg e]
                          refine rowL_congr _ _ _ fun j hj => ?_
                          rw [← lowTo_step n col i G (by omega) r j, if_neg e]))
                      go_wp2_with fail
                      go_roundw
                      case rel => exact ⟨i + 1, by omega, by omega, by go_num, HO8, HB5⟩
                      case measure => simp [intOf]; omega
                · obtain rfl : i = N := by omega
                  have HK4 : Hid (Ker i (lowF n col G) x) := HK2.out.low (by omega) col
                  have HT4 : Hid (n + 1 = col + 1 → Tri i (col + 1) (lowF n col G)) := fun e => by
                    obtain rfl : n = col := by omega
                    exact (HT2.out rfl).low (by omega) HP2.out
                  have HO9 := Lib.hid (HO3.out.congr (fun r => rowL i (lowF n col G r)) (fun r hr => by unfold lowTo; rw [if_pos hr]))
                  go_wp2_with fail
                  go_roundw
                  case rel => exact ⟨n + 1, col + 1, rvs, _, by omega, by omega, by go_num, by go_num, HO9, HK4, HT4, HB3⟩
                  case measure => simp [intOf]; omega
            · have hne : ¬ a = n := fun e => han e.symm
              go_region
              have HOs := Lib.hid ((HO.out.swap n a (by omega) (by omega)).keep_below (Below.refl _ _).drew)
              rw [En.out, Ea.out] at HOs
              have HK2 : Hid (Ker N (swapF n a F) x) := HKF.out.swap (by omega) (by omega)
              have HT2 : Hid (n = col → Tri N col (swapF n a F)) := fun e => by have h := HT.out e; subst e; exact h.swap ha hla
              have HP2 : Hid (swapF n a F n col ≠ 0) := by unfold swapF; rw [if_pos rfl]; exact Hz.out
              have HB2 := Lib.hid (((HB.out.setCell (p := ⟨g, n, none⟩) hgb (.slice (some ⟨ga, 0, none⟩) N ca)).setCell (p := ⟨g, a, none⟩) hgb (.slice (some ⟨gn, 0, none⟩) N cn)).drew)
              have hTT : True := trivial
              clear HO HKF HT HB hca hza hcn hzn Hz
              generalize swapF n _ F = G at HOs HK2 HT2 HP2
              generalize swapV n _ rv = rvs at HOs
              generalize World.drew _ = W at *
              go_wp2_with fail
              go_loopw [6, 7, 8] (fun iv _ _ wr => ∃ (i : Nat), n + 1 ≤ i ∧ i ≤ N ∧ iv = .int .i64 i ∧ Hid (OwnMat wr w.heap.size (.slice (some ⟨g, 0, none⟩) N cv) N rvs (fun r => rowL N (lowTo n col i G r))) ∧ Hid (Below w.heap.size w wr)) (fun iv _ _ _ => N - (intOf iv).toNat)
              case atStart => exact ⟨n + 1, Nat.le_refl _, by omega, by go_num, Lib.hid (HOs.out.congr _ (fun r _ => rowL_congr _ _ _ fun j _ => (lowTo_start n col G r j).symm)), HB2⟩
              case round =>
                obtain ⟨i, hi1, hi2, rfl, HO3, HB3⟩ := hrel
                clear HOs HB2
                by_cases hli : i < N
                · have hli' : (i : Int) < (N : Int) := by omega
                  obtain ⟨hci, -⟩ := HO3.out.cellAt i hli
                  obtain ⟨hcn, -⟩ := HO3.out.cellAt n (by omega)
                  obtain ⟨gi, ci, ei, hgi, -, -⟩ := own_form (HO3.out.rows.row i hli) (by omega)
                  obtain ⟨gn, cn, en, hgn, -, -⟩ := own_form (HO3.out.rows.row n (by omega)) (by omega)
                  obtain ⟨h3, -⟩ := own_at (ei ▸ HO3.out.rows.row i hli) col hlt
                  obtain ⟨h4, -⟩ := own_at (en ▸ HO3.out.rows.row n (by omega)) col hlt
                  rw [lowTo_row] at h3
                  rw [lowTo_a] at h4
                  rw [ei] at hci
                  rw [en] at hcn
                  have Ei := Lib.hid ei
                  have En := Lib.hid en
                  have Hap : Hid (gi ≠ gn) := fun e => HO3.out.rows.apart i n hli (by show n < N; omega) (by omega) gi (by rw [ei]; rfl) (by rw [en, e]; rfl)
                  clear ei en
                  have Hpw := Lib.hid (fun W => refpow8 (G n col) 254 (by omega) W)
                  have Hiv : Hid (gpow (G n col) 254 = ginv (G n col)) := rfl
                  rw [Hiv.out] at Hpw
                  have Hmu := Lib.hid (fun W => refmul8 (G i col) (ginv (G n col)) W)
                  have Hq : Hid (∀ j, (if True then G i j ^^^ gmul (gmul (G i col) (ginv (G n col))) (G n j) else 0) = G i j ^^^ gmul (gmul (G i col) (ginv (G n col))) (G n j)) := fun j => if_pos trivial
                  generalize hqq : gmul (G i col) (ginv (G n col)) = q at *
                  have Hqq := Lib.hid hqq
                  clear hqq
                  have hnN : (n : Int) < (N : Int) := by omega
                  go_wp2_with fail
                  go_quiet (first | (go_at_call 49; exact Calls.quiet_of_same ((Hpw.out _).mono fun _ _ h => ⟨h.1, h.2.symm⟩)) | (go_at_call 36; exact Calls.quiet_of_same ((Hmu.out _).mono fun _ _ h => ⟨h.1, h.2.symm⟩)))
                  have HO4 : Hid (OwnMat (wr.drewN nq) w.heap.size (.slice (some ⟨g, 0, none⟩) N cv) N rvs (fun r => if r = i then rowL N (fun j => if j < 0 then G i j ^^^ gmul q (G n j) else G i j) else rowL N (lowTo n col i G r))) := (HO3.out.keep_below (below_drewN (Below.refl _ _) nq)).congr _ (fun r _ => by
                    by_cases e : r = i
                    · subst e; rw [if_pos rfl]; exact rowL_congr _ _ _ fun j _ => by rw [lowTo_row]; simp
                    · rw [if_neg e])
                  have HB4 : Hid (Below w.heap.size w (wr.drewN nq)) := below_drewN HB3.out nq
                  clear h3 h4 hci hcn HO3 HB3 Hpw Hmu
                  generalize wr.drewN nq = W4 at *
                  go_wp2_with fail
                  go_loopw [8] (fun kv wr => ∃ t : Nat, t ≤ N ∧ kv = .int .i64 t ∧ Hid (OwnMat wr w.heap.size (.slice (some ⟨g, 0, none⟩) N cv) N rvs (fun r => if r = i then rowL N (fun j => if j < t then G i j ^^^ gmul q (G n j) else G i j) else rowL N (lowTo n col i G r))) ∧ Hid (Below w.heap.size w wr)) (fun kv _ => N - (intOf kv).toNat)
                  case atStart => exact ⟨0, Nat.zero_le _, rfl, HO4, HB4⟩
                  case round =>
                    obtain ⟨t, ht, rfl, HO5, HB5⟩ := hrel
                    clear HO4 HB4
                    by_cases hltt : t < N
                    · have hltt' : (t : Int) < (N : Int) := by omega
                      have hin : n ≠ i := by omega
                      obtain ⟨hci, -⟩ := HO5.out.cellAt i hli
                      obtain ⟨hcn, -⟩ := HO5.out.cellAt n (by omega)
                      have hri := HO5.out.rows.row i hli
                      have hrn := HO5.out.rows.row n (by omega)
                      simp only [if_true] at hri
                      rw [if_neg hin, lowTo_a] at hrn
                      rw [Ei.out] at hri hci
                      rw [En.out] at hrn hcn
                      obtain ⟨h3, hz3⟩ := own_at hri t hltt
                      obtain ⟨h4, -⟩ := own_at hrn t hltt
                      rw [if_neg (Nat.lt_irrefl t)] at h3
                      have HP := Lib.hid (HO5.out.put i hli gi N ci Ei.out t (G i t ^^^ gmul q (G n t)))
                      have HO6 := Lib.hid (HP.out.congr (fun r => if r = i then rowL N (fun j => if j < t + 1 then G i j ^^^ gmul q (G n j) else G i j) else rowL N (lowTo n col i G r)) (fun r _ => by
                        by_cases e : r = i
                        · rw [if_pos e, if_pos e, if_pos rfl]; exact low_set N (G i) (G n) q t hltt
                        · rw [if_neg e, if_neg e, if_neg e]))
                      have HB6 := Lib.hid (HB5.out.setCell (p := ⟨gi, t, none⟩) hgi (.int .u8 ((G i t ^^^ gmul q (G n t)).toNat : Int)))
                      have Hx8 := Lib.hid (xor_b8 (G i t) (gmul q (G n t)))
                      have Hm8 := Lib.hid (fun W => refmul8 q (G n t) W)
                      generalize gmul q (G n t) = z at HO6 HB6 Hx8 Hm8
                      generalize G i t ^^^ z = z2 at HO6 HB6 Hx8
                      clear HP hri hrn
                      go_wp2_with fail
                      have hS : (fun w' : World => w'.cell? ⟨g, i, none⟩ = some (.slice (some ⟨gi, 0, none⟩) N ci) ∧ w'.cell? ⟨gi, t, none⟩ = some (.int .u8 ((G i t).toNat : Int)) ∧ w'.cell? ⟨g, n, none⟩ = some (.slice (some ⟨gn, 0, none⟩) N cn) ∧ w'.cell? ⟨gn, t, none⟩ = some (.int .u8 ((G n t).toNat : Int))) wr.drew := ⟨hci, h3, hcn, h4⟩
                      have hT : (fun _ : World => True) wr.drew := trivial
                      have hz4 : wr.drew.frozen? ⟨gi, t, none⟩ = false := hz3
                      have HO7 : Hid (OwnMat (wr.drew.setCell ⟨gi, t, none⟩ (.int .u8 (z2.toNat : Int))) w.heap.size (.slice (some ⟨g, 0, none⟩) N cv) N rvs (fun r => if r = i then rowL N (fun j => if j < t + 1 then G i j ^^^ gmul q (G n j) else G i j) else rowL N (lowTo n col i G r))) := ⟨HO6.out.top, ⟨HO6.out.rows.row, HO6.out.rows.apart⟩⟩
                      have HB7 : Hid (Below w.heap.size w (wr.drew.setCell ⟨gi, t, none⟩ (.int .u8 (z2.toNat : Int)))) := ⟨HB6.out.os, HB6.out.tape, HB6.out.output, HB6.out.size, HB6.out.block⟩
                      refine OrdTo.begin_ (fun w' : World => w'.cell? ⟨g, i, none⟩ = some (.slice (some ⟨gi, 0, none⟩) N ci) ∧ w'.cell? ⟨gi, t, none⟩ = some (.int .u8 ((G i t).toNat : Int)) ∧ w'.cell? ⟨g, n, none⟩ = some (.slice (some ⟨gn, 0, none⟩) N cn) ∧ w'.cell? ⟨gn, t, none⟩ = some (.int .u8 ((G n t).toNat : Int))) (fun _ : World => True) 18 (by kernel_rfl) ?_
                      clear hci h3 hcn h4 hz3 HO6 HB6
                      generalize wr.drew = W5 at *
                      refine OrdTo.takePure 0 (v := ?vw0) rfl (by kernel_rfl) (fun _ _ _ h => h) (fun _ => by assumption) (by assumption) (by rfl) ?yw0 ?rw0
                      case yw0 => (intro w hTw; (try dsimp only at hTw); go_simp; try with_reducible rfl)
                      try simp only [Act.put, List.setIfInBounds_toArray, List.set_cons_zero, List.set_cons_succ]
                      refine OrdTo.takePure 1 (v := ?vw1) rfl (by kernel_rfl) (fun _ _ _ h => h) (fun _ => by assumption) (by assumption) (by rfl) ?yw1 ?rw1
                      case yw1 => (intro w hTw; (try dsimp only at hTw); go_simp; try with_reducible rfl)
                      try simp only [Act.put, List.setIfInBounds_toArray, List.set_cons_zero, List.set_cons_succ]
                      refine OrdTo.takePure 2 (v := ?vw2) rfl (by kernel_rfl) (fun _ _ _ h => h) (fun _ => by assumption) (by assumption) (by rfl) ?yw2 ?rw2
                      case yw2 => (intro w hTw; (try dsimp only at hTw); go_simp; try with_reducible rfl)
                      try simp only [Act.put, List.setIfInBounds_toArray, List.set_cons_zero, List.set_cons_succ]
                      refine OrdTo.take 3 (v := ?vw3) rfl (by kernel_rfl) (fun _ _ _ h => h) (by assumption) (by assumption) (by rfl) ?yw3 ?rw3
                      case yw3 => (intro w hSw hTw; (try dsimp only at hSw hTw); go_split_ands; go_simp; try with_reducible rfl)
                      try simp only [Act.put, List.setIfInBounds_toArray, List.set_cons_zero, List.set_cons_succ]
                      refine OrdTo.takePure 4 (v := ?vw4) rfl (by kernel_rfl) (fun _ _ _ h => h) (fun _ => by assumption) (by assumption) (by rfl) ?yw4 ?rw4
                      case yw4 => (intro w hTw; (try dsimp only at hTw); go_simp; try with_reducible rfl)
                      try simp only [Act.put, List.setIfInBounds_toArray, List.set_cons_zero, List.set_cons_succ]
                      refine OrdTo.takePure 5 (v := ?vw5) rfl (by kernel_rfl) (fun _ _ _ h => h) (fun _ => by assumption) (by assumption) (by rfl) ?yw5 ?rw5
                      case yw5 => (intro w hTw; (try dsimp only at hTw); go_simp; try with_reducible rfl)
                      try simp only [Act.put, List.setIfInBounds_toArray, List.set_cons_zero, List.set_cons_succ]
                      refine OrdTo.take 6 (v := ?vw6) rfl (by kernel_rfl) (fun _ _ _ h => h) (by assumption) (by assumption) (by rfl) ?yw6 ?rw6
                      case yw6 => (intro w hSw hTw; (try dsimp only at hSw hTw); go_split_ands; go_simp; try with_reducible rfl)
                      try simp only [Act.put, List.setIfInBounds_toArray, List.set_cons_zero, List.set_cons_succ]
                      refine OrdTo.takePure 7 (v := ?vw7) rfl (by kernel_rfl) (fun _ _ _ h => h) (fun _ => by assumption) (by assumption) (by rfl) ?yw7 ?rw7
                      case yw7 => (intro w hTw; (try dsimp only at hTw); go_simp; try with_reducible rfl)
                      try simp only [Act.put, List.setIfInBounds_toArray, List.set_cons_zero, List.set_cons_succ]
                      refine OrdTo.takePure 8 (v := ?vw8) rfl (by kernel_rfl) (fun _ _ _ h => h) (fun _ => by assumption) (by assumption) (by rfl) ?yw8 ?rw8
                      case yw8 => (intro w hTw; (try dsimp only at hTw); go_simp; try with_reducible rfl)
                      try simp only [Act.put, List.setIfInBounds_toArray, List.set_cons_zero, List.set_cons_succ]
                      refine OrdTo.takePure 9 (v := ?vw9) rfl (by kernel_rfl) (fun _ _ _ h => h) (fun _ => by assumption) (by assumption) (by rfl) ?yw9 ?rw9
                      case yw9 => (intro w hTw; (try dsimp only at hTw); go_simp; try with_reducible rfl)
                      try simp only [Act.put, List.setIfInBounds_toArray, List.set_cons_zero, List.set_cons_succ]
                      refine OrdTo.takePure 10 (v := ?vw10) rfl (by kernel_rfl) (fun _ _ _ h => h) (fun _ => by assumption) (by assumption) (by rfl) ?yw10 ?rw10
                      case yw10 => (intro w hTw; (try dsimp only at hTw); go_simp; try with_reducible rfl)
                      try simp only [Act.put, List.setIfInBounds_toArray, List.set_cons_zero, List.set_cons_succ]
                      refine OrdTo.take 11 (v := ?vw11) rfl (by kernel_rfl) (fun _ _ _ h => h) (by assumption) (by assumption) (by rfl) ?yw11 ?rw11
                      case yw11 => (intro w hSw hTw; (try dsimp only at hSw hTw); go_split_ands; go_simp; try with_reducible rfl)
                      try simp only [Act.put, List.setIfInBounds_toArray, List.set_cons_zero, List.set_cons_succ]
                      refine OrdTo.takePure 12 (v := ?vw12) rfl (by kernel_rfl) (fun _ _ _ h => h) (fun _ => by assumption) (by assumption) (by rfl) ?yw12 ?rw12
                      case yw12 => (intro w hTw; (try dsimp only at hTw); go_simp; try with_reducible rfl)
                      try simp only [Act.put, List.setIfInBounds_toArray, List.set_cons_zero, List.set_cons_succ]
                      refine OrdTo.takePure 13 (v := ?vw13) rfl (by kernel_rfl) (fun _ _ _ h => h) (fun _ => by assumption) (by assumption) (by rfl) ?yw13 ?rw13
                      case yw13 => (intro w hTw; (try dsimp only at hTw); go_simp; try with_reducible rfl)
                      try simp only [Act.put, List.setIfInBounds_toArray, List.set_cons_zero, List.set_cons_succ]
                      refine OrdTo.take 14 (v := ?vw14) rfl (by kernel_rfl) (fun _ _ _ h => h) (by assumption) (by assumption) (by rfl) ?yw14 ?rw14
                      case yw14 => (intro w hSw hTw; (try dsimp only at hSw hTw); go_split_ands; go_simp; try with_reducible rfl)
                      try simp only [Act.put, List.setIfInBounds_toArray, List.set_cons_zero, List.set_cons_succ]
                      refine OrdTo.step 15 rfl (by kernel_rfl) (by rfl) (fun K hK => ?_)
                      go_simp
                      refine (Hm8.out _).mono ?_
                      rintro e w6 ⟨rfl, rfl⟩
                      refine hK _ _ (fun _ => hS) hT ?_
                      clear hK K
                      try simp only [Act.put, List.setIfInBounds_toArray, List.set_cons_zero, List.set_cons_succ]
                      refine OrdTo.takePure 16 (v := ?vz16B) rfl (by kernel_rfl) (fun _ _ _ h => h) (fun _ => by assumption) (by assumption) (by rfl) ?yz16B ?rz16B
                      case yz16B => (intro w hTw; (try dsimp only at hTw); go_simp; try with_reducible rfl)
                      try simp only [Act.put, List.setIfInBounds_toArray, List.set_cons_zero, List.set_cons_succ]
                      rw [Hx8.out]
                      refine OrdTo.takePure 17 (v := ?vz17B) rfl (by kernel_rfl) (fun _ _ _ h => h) (fun _ => by assumption) (by assumption) (by rfl) ?yz17B ?rz17B
                      case yz17B => (intro w hTw; (try dsimp only at hTw); go_simp; try with_reducible rfl)
                      try simp only [Act.put, List.setIfInBounds_toArray, List.set_cons_zero, List.set_cons_succ]
                      refine OrdTo.step 18 rfl (by kernel_rfl) (by rfl) (fun K hK => ?_)
                      go_simp
                      refine hK _ _ (no_false (by kernel_rfl)) trivial ?_
                      clear hK K
                      try simp only [Act.put, List.setIfInBounds_toArray, List.set_cons_zero, List.set_cons_succ]
                      refine OrdTo.done (by kernel_rfl) ?_
                      go_wp2_with fail
                      go_roundw
                      case rel => exact ⟨t + 1, by omega, by go_num, HO7, HB7⟩
                      case measure => simp [intOf]; omega
                    · obtain rfl : t = N := by omega
                      have HO8 := Lib.hid (HO5.out.congr (fun r => rowL t (lowTo n col (i + 1) G r)) (fun r _ => by
                        by_cases e : r = i
                        · rw [if_pos e]
                          refine rowL_congr _ _ _ fun j hj => ?_
                          rw [if_pos hj, ← lowTo_step n col i G (by omega) r j, if_pos e, Hqq.out]
                        · rw [if_neg e]
                          refine rowL_congr _ _ _ fun j hj => ?_
                          rw [← lowTo_step n col i G (by omega) r j, if_neg e]))
                      go_wp2_with fail
                      go_roundw
                      case rel => exact ⟨i + 1, by omega, by omega, by go_num, HO8, HB5⟩
                      case measure => simp [intOf]; omega
                · obtain rfl : i = N := by omega
                  have HK4 : Hid (Ker i (lowF n col G) x) := HK2.out.low (by omega) col
                  have HT4 : Hid (n + 1 = col + 1 → Tri i (col + 1) (lowF n col G)) := fun e => by
                    obtain rfl : n = col := by omega
                    exact (HT2.out rfl).low (by omega) HP2.out
                  have HO9 := Lib.hid (HO3.out.congr (fun r => rowL i (lowF n col G r)) (fun r hr => by unfold lowTo; rw [if_pos hr]))
                  go_wp2_with fail
                  go_roundw
                  case rel => exact ⟨n + 1, col + 1, rvs, _, by omega, by omega, by go_num, by go_num, HO9, HK4, HT4, HB3⟩
                  case measure => simp [intOf]; omega
        · obtain rfl : a = N := by omega
          go_wp2_with fail
          go_roundw
          case rel => exact ⟨n, col + 1, rv, F, by omega, by omega, rfl, by go_num, HO, HKF, fun e => absurd e (by omega), HB⟩
          case measure => simp [intOf]; omega
    · obtain rfl : col = N := by omega
      have Hr : Hid (n < col) := rank_lt hc Hx.out HKF.out (fun e => HT.out e) hn
      go_wp2_with fail
      go_ret
      exact ⟨⟨n, rfl, Hr.out⟩, HB.out⟩
end Go.Proofs.Ytddmifbgbmjdaab
