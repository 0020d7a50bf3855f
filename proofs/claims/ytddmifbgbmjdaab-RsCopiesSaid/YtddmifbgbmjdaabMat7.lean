/- The walk of the solver's pivot. -/
import Derived.Test.YtddmifbgbmjdaabMat6
import Derived.Test.YtddmifbgbmjdaabRegion
import Derived.Deep.RegionHeld3
set_option linter.unusedVariables false
set_option linter.unusedSimpArgs false
namespace Go.Proofs.Ytddmifbgbmjdaab
open Go.RowKit

theorem IxP.ex (p : List UInt8 → Bool) (M : List (List UInt8)) : ∃ i, IxP p M i := by
  by_cases h : ∃ k, ∃ h : k < M.length, p M[k] = true
  · have : ∃ k, (∃ h : k < M.length, p M[k] = true) ∧ ∀ j, j < k → ¬ ∃ h : j < M.length, p M[j] = true := by
      obtain ⟨k, hk⟩ := h
      induction k using Nat.strongRecOn with
      | ind k ih =>
        by_cases hc : ∃ j, j < k ∧ ∃ h : j < M.length, p M[j] = true
        · obtain ⟨j, hj, hh⟩ := hc
          exact ih j hj hh
        · exact ⟨k, hk, fun j hj hh => hc ⟨j, hj, hh⟩⟩
    obtain ⟨k, ⟨hk, hp⟩, hmin⟩ := this
    refine ⟨k, .inr ⟨k, hk, rfl, hp, fun j hj => ?_⟩⟩
    have := hmin j hj
    cases e : p (M[j]'(by omega))
    · rfl
    · exact absurd ⟨by omega, e⟩ this
  · refine ⟨-1, .inl ⟨rfl, fun k hk => ?_⟩⟩
    cases e : p M[k]
    · rfl
    · exact absurd ⟨k, hk, e⟩ h
theorem IxP.uniq {p : List UInt8 → Bool} {M : List (List UInt8)} {i j : Int} (h : IxP p M i) (h' : IxP p M j) : i = j := by
  rcases h with ⟨rfl, h⟩ | ⟨k, hk, rfl, hp, h⟩ <;> rcases h' with ⟨rfl, h'⟩ | ⟨k', hk', rfl, hp', h'⟩
  · rfl
  · rw [h k' hk'] at hp'; cases hp'
  · rw [h' k hk] at hp; cases hp
  · rcases Nat.lt_trichotomy k k' with e | e | e
    · rw [h' k e] at hp; cases hp
    · rw [e]
    · rw [h k' e] at hp'; cases hp'
noncomputable def ixF (p : List UInt8 → Bool) (M : List (List UInt8)) : Int := Classical.choose (IxP.ex p M)
theorem ixF_spec (p : List UInt8 → Bool) (M : List (List UInt8)) : IxP p M (ixF p M) := Classical.choose_spec (IxP.ex p M)
theorem pivot1_calls (bx n : Nat) (rv : Value) (m : Nat) (f : Nat → UInt8) (P : Nat → Prop) (w : World) (hbx : w.cell? ⟨bx, 0, none⟩ = some (.int .i64 (n : Int))) (hr : Bytes P w rv (rowL m f)) (hn : n < m) :
    Calls Try.prog 60 #[rv, .pointer (some ⟨bx, 0, none⟩)] w fun e w' => e = .returned (.bool (decide (f n ≠ 0))) ∧ w = w' := by
  obtain ⟨A, c, rfl, hl1, hl2⟩ := hr
  obtain ⟨ad, rfl, hp, hc⟩ := rd_at hl2 n (by rw [rowL_length]; exact hn)
  rw [rowL_get] at hc
  rw [rowL_length] at *
  have hlt : (n : Int) < (m : Int) := by omega
  have Hr : Hid ((((f n).toNat : Int) != 0) = decide (f n ≠ 0)) := by
    unfold bne
    rw [u8_zero]
    by_cases h : f n = 0 <;> simp [Hid, h]
  clear hl2
  generalize f n = q at *
  go_enter Try.func60, Try.ntmps60
  go_wp2_with fail
  go_ret
  exact ⟨by rw [← Hr.out]; rfl, rfl⟩
theorem MatR.rest0 {P : Nat → Prop} {w : World} {g n c : Nat} {M : List (List UInt8)} (h : MatR P w (.slice (some ⟨g, 0, none⟩) n c) M) (k : Nat) (hk : k ≤ M.length) (hc : ¬ c = k) : MatR P w (.slice (some ⟨g, k, none⟩) (n - k) (c - k)) (M.drop k) := by
  have := h.rest k hk
  rw [if_neg hc] at this
  simpa [add_flat] using this
theorem idxq_calls (v : Value) (bx n N c : Nat) (Fm : Nat → Nat → UInt8) (P : Nat → Prop) (w : World) (hv : MatR P w v ((tab N N Fm).drop n)) (hbx : w.cell? ⟨bx, 0, none⟩ = some (.int .i64 (n : Int))) (hn : n < N) :
    Calls Try.prog 59 #[v, .func (.func 60) #[] #[.pointer (some ⟨bx, 0, none⟩)]] w fun e w' => e = .returned (.int .i64 (ixF (fun r => decide (r.getD n 0 ≠ 0)) ((tab N N Fm).drop n))) ∧ w' = w := by
  refine (idxf_calls 60 (enters_fn Try.func60 (by kernel_rfl) rfl) _ v _ (fun r => decide (r.getD n 0 ≠ 0)) P w hv ?_).mono ?_
  · intro k hk rv hb
    have hk' : n + k < N := by rw [List.length_drop, tab_length] at hk; omega
    have e : ((tab N N Fm).drop n)[k] = rowL N (Fm (n + k)) := by rw [List.getElem_drop, tab_get]
    rw [e] at hb ⊢
    rw [rowL_getD N _ n hn]
    exact pivot1_calls bx n rv N (Fm (n + k)) P w hbx hb hn
  · rintro e w' ⟨⟨i, rfl, hi⟩, rfl⟩
    rw [IxP.uniq hi.out (ixF_spec _ _)]
    exact ⟨rfl, rfl⟩
set_option maxHeartbeats 4000000 in
theorem pivot_calls (w : World) (base s tg gm cm go co N : Nat) (rm ro : Nat → Value) (Fm Fo : Nat → Nat → UInt8) (HS : Slv w base s tg gm cm go co N rm ro Fm Fo) (hN : N ≤ 1000) (n : Nat) (hn : n < N) :
    Calls Try.prog 47 #[.pointer (some ⟨s, 0, none⟩), .int .i64 (n : Int)] w fun e w' =>
      (∃ p, n ≤ p ∧ p < N ∧ Fm p n ≠ 0 ∧ e = .returned (.bool true) ∧ Slv w' base s tg gm cm go co N (swapV n p rm) (swapV n p ro) (swapF n p Fm) (swapF n p Fo) ∧ Fr (· < base) w w') ∨
      ((∀ i, n ≤ i → i < N → Fm i n = 0) ∧ e = .returned (.bool false) ∧ Fr (· < base) w w') := by
  have hmf : ∀ (fn : Fn) (first cap : Array Value) (w : World), (Instr.makeFunc fn first cap).run Try.prog w = .ok (.func fn first cap) w := fun _ _ _ _ => rfl
  have HS1 : Hid (Slv (w.alloc (.cells #[.int .i64 (n : Int)] 3)) base s tg gm cm go co N rm ro Fm Fo) := HS.below ((Below.refl _ _).alloc (Nat.le_refl _) _)
  have hbase : base ≤ w.heap.size := by have := HS.blk.lt; have := HS.lo; omega
  have HF1 : Hid (Fr (· < base) w (w.alloc (.cells #[.int .i64 (n : Int)] 3))) := (Fr.refl _ _).alloc _
  have HX1 : Hid (Bk (w.alloc (.cells #[.int .i64 (n : Int)] 3)) w.heap.size 3 #[.int .i64 (n : Int)]) := Bk.new w _ _
  have hsx : s ≠ w.heap.size := by have := HS.blk.lt; omega
  obtain ⟨_, _, ee, hcm1, hcm2⟩ := HS.matM.form
  cases ee
  have hnc : ¬ cm = n := by omega
  have hlt' : (n : Int) < (N : Int) := by omega
  clear HS
  go_enter Try.func47, Try.ntmps47
  go_wp2_with fail
  generalize hW : w.alloc (.cells #[.int .i64 (n : Int)] 3) = W at *
  have HW := Lib.hid hW
  clear hW
  have hs1 := HS1.out.blk.cell 1
  have hx0 := HX1.out.cell 0
  simp at hs1 hx0
  have HR : Hid (MatR (base ≤ ·) W (.slice (some ⟨gm, n, none⟩) (N - n) (cm - n)) ((tab N N Fm).drop n)) := HS1.out.matM.rest0 n (by rw [tab_length]; omega) hnc
  have Hx0 := Lib.hid hx0
  go_quiet ((go_at_call 59; exact Calls.quiet_of_same (idxq_calls _ w.heap.size n N (cm - n) Fm (base ≤ ·) _ (by exact HR.out) (by exact Hx0.out) hn)))
  have Hq : Hid (IxP (fun r => decide (r.getD n 0 ≠ 0)) ((tab N N Fm).drop n) (ixF (fun r => decide (r.getD n 0 ≠ 0)) ((tab N N Fm).drop n))) := ixF_spec _ _
  generalize ixF (fun r => decide (r.getD n 0 ≠ 0)) ((tab N N Fm).drop n) = q at *
  have HS2 : Hid (Slv (W.drewN nq) base s tg gm cm go co N rm ro Fm Fo) := HS1.out.drewN nq
  have HF2 : Hid (Fr (· < base) w (W.drewN nq)) := HF1.out.drewN nq
  have HX2 : Hid (Bk (W.drewN nq) w.heap.size 3 #[.int .i64 (n : Int)]) := HX1.out.drewN nq
  clear hs1 hx0 HS1 HF1 HX1 HR Hx0
  generalize W.drewN nq = W2 at *
  have Hrow : Hid (∀ k, n + k < N → ((tab N N Fm).drop n).getD k [] = rowL N (Fm (n + k))) := fun k hk => by
    rw [List.getD_eq_getElem?_getD, List.getElem?_eq_getElem (by rw [List.length_drop, tab_length]; omega), List.getElem_drop, tab_get]; rfl
  rcases Hq.out with ⟨rfl, h⟩ | ⟨k, hk, rfl, h, hmin⟩
  · have Hz : Hid (∀ i, n ≤ i → i < N → Fm i n = 0) := fun i hi hiN => by
      have := h (i - n) (by rw [List.length_drop, tab_length]; omega)
      rw [List.getElem_drop, tab_get] at this
      have e : n + (i - n) = i := by omega
      rw [e] at this
      have h2 : decide ((rowL N (Fm i)).getD n 0 ≠ 0) = false := this
      rw [rowL_getD N _ n hn] at h2
      simpa using h2
    clear h
    go_wp2_with fail
    go_ret
    exact .inr ⟨Hz.out, rfl, HF2.out⟩
  · rw [List.length_drop, tab_length] at hk
    have Hp : Hid (Fm (n + k) n ≠ 0) := by
      rw [List.getElem_drop, tab_get] at h
      have h2 : decide ((rowL N (Fm (n + k))).getD n 0 ≠ 0) = true := h
      rw [rowL_getD N _ n hn] at h2
      exact (of_decide_eq_true h2 : Fm (n + k) n ≠ 0)
    clear h hmin Hq Hrow
    have hk1 : ¬ ((k : Int) < 0) := by omega
    have hwr : IntKind.i64.wrap ((n : Int) + (k : Int)) = (n : Int) + (k : Int) := by rw [IntKind.wrap_i64]; omega
    have hs1 := HS2.out.blk.cell 1
    have hs2 := HS2.out.blk.cell 2
    have hx0 := HX2.out.cell 0
    simp at hs1 hs2 hx0
    go_wp2_with fail
    obtain ⟨m1, mz1⟩ := HS2.out.atM n hn
    obtain ⟨o1, oz1⟩ := HS2.out.atO n hn
    obtain ⟨g1, c1, e1, -, -, -⟩ := own_form (HS2.out.rowM n hn) (by omega)
    obtain ⟨g3, c3, e3, -, -, -⟩ := own_form (HS2.out.rowO n hn) (by omega)
    rw [e1] at m1
    rw [e3] at o1
    have E1 := Lib.hid e1
    have E3 := Lib.hid e3
    clear e1 e3
    have hgm := HS2.out.tm.base_le gm rfl
    have hgo := HS2.out.to.base_le go rfl
    have hgmb : base ≤ gm := hgm.1
    have hgob : base ≤ go := hgo.1
    have hgmx : w.heap.size ≠ gm := fun e => bk_apart HX2.out HS2.out.tm (by decide) (by rw [e]; rfl)
    have hgox : w.heap.size ≠ go := fun e => bk_apart HX2.out HS2.out.to (by decide) (by rw [e]; rfl)
    clear hgm hgo
    by_cases hk0 : k = 0
    · subst hk0
      rw [Nat.add_zero] at Hp
      have hwr0 : IntKind.i64.wrap (n : Int) = (n : Int) := by rw [IntKind.wrap_i64]; omega
      clear hwr
      have HSa : Hid (Slv W2.drew base s tg gm cm go co N rm ro Fm Fo) := HS2.out.below (Below.refl _ _).drew
      have HFa : Hid (Fr (· < base) w W2.drew) := HF2.out.drew
      have HXa : Hid (Bk W2.drew w.heap.size 3 #[.int .i64 (n : Int)]) := HX2.out.drew
      have hsA := hs1
      have hxA := hx0
      have aA := m1
      have zaA := mz1
      clear hs1 hs2 hx0 m1 mz1 o1 oz1 HS2 HF2 HX2
      have hS : (fun w' : World => w'.cell? ⟨s, 1, none⟩ = some (.slice (some ⟨gm, 0, none⟩) N cm) ∧ w'.cell? ⟨gm, n, none⟩ = some (.slice (some ⟨g1, 0, none⟩) N c1)) W2.drew := ⟨hsA, aA⟩
      have hT : (fun w' : World => w'.cell? ⟨w.heap.size, 0, none⟩ = some (.int .i64 (n : Int))) W2.drew := hxA
      have z1 : W2.drew.frozen? ⟨gm, n, none⟩ = false := zaA
      refine OrdTo.begin_ (fun w' : World => w'.cell? ⟨s, 1, none⟩ = some (.slice (some ⟨gm, 0, none⟩) N cm) ∧ w'.cell? ⟨gm, n, none⟩ = some (.slice (some ⟨g1, 0, none⟩) N c1)) (fun w' : World => w'.cell? ⟨w.heap.size, 0, none⟩ = some (.int .i64 (n : Int))) 29 (by kernel_rfl) ?_
      clear hsA hxA aA zaA
      generalize W2.drew = W3 at *
      refine OrdTo.takePure 0 (v := ?vr0) rfl (by kernel_rfl) (fun _ _ _ h => h) (fun _ => by assumption) (by assumption) (by rfl) ?yr0 ?rr0
      case yr0 => (intro w hTw; (try dsimp only at hTw); go_simp; try with_reducible rfl)
      try simp only [Act.put, List.setIfInBounds_toArray, List.set_cons_zero, List.set_cons_succ]
      refine OrdTo.takePure 1 (v := ?vr1) rfl (by kernel_rfl) (fun _ _ _ h => h) (fun _ => by assumption) (by assumption) (by rfl) ?yr1 ?rr1
      case yr1 => (intro w hTw; (try dsimp only at hTw); go_simp; try with_reducible rfl)
      try simp only [Act.put, List.setIfInBounds_toArray, List.set_cons_zero, List.set_cons_succ]
      refine OrdTo.takePure 2 (v := ?vr2) rfl (by kernel_rfl) (fun _ _ _ h => h) (fun _ => by assumption) (by assumption) (by rfl) ?yr2 ?rr2
      case yr2 => (intro w hTw; (try dsimp only at hTw); go_simp; try with_reducible rfl)
      try simp only [Act.put, List.setIfInBounds_toArray, List.set_cons_zero, List.set_cons_succ]
      refine OrdTo.take 3 (v := ?vr3) rfl (by kernel_rfl) (fun _ _ _ h => h) (by assumption) (by assumption) (by rfl) ?yr3 ?rr3
      case yr3 => (intro w hSw hTw; (try dsimp only at hSw hTw); go_split_ands; go_simp; try with_reducible rfl)
      try simp only [Act.put, List.setIfInBounds_toArray, List.set_cons_zero, List.set_cons_succ]
      refine OrdTo.takePure 4 (v := ?vr4) rfl (by kernel_rfl) (fun _ _ _ h => h) (fun _ => by assumption) (by assumption) (by rfl) ?yr4 ?rr4
      case yr4 => (intro w hTw; (try dsimp only at hTw); go_simp; try with_reducible rfl)
      try simp only [Act.put, List.setIfInBounds_toArray, List.set_cons_zero, List.set_cons_succ]
      refine OrdTo.takePure 5 (v := ?vr5) rfl (by kernel_rfl) (fun _ _ _ h => h) (fun _ => by assumption) (by assumption) (by rfl) ?yr5 ?rr5
      case yr5 => (intro w hTw; (try dsimp only at hTw); go_simp; try with_reducible rfl)
      try simp only [Act.put, List.setIfInBounds_toArray, List.set_cons_zero, List.set_cons_succ]
      refine OrdTo.takePure 6 (v := ?vr6) rfl (by kernel_rfl) (fun _ _ _ h => h) (fun _ => by assumption) (by assumption) (by rfl) ?yr6 ?rr6
      case yr6 => (intro w hTw; (try dsimp only at hTw); go_simp; try with_reducible rfl)
      try simp only [Act.put, List.setIfInBounds_toArray, List.set_cons_zero, List.set_cons_succ]
      refine OrdTo.takePure 7 (v := ?vr7) rfl (by kernel_rfl) (fun _ _ _ h => h) (fun _ => by assumption) (by assumption) (by rfl) ?yr7 ?rr7
      case yr7 => (intro w hTw; (try dsimp only at hTw); go_simp; try with_reducible rfl)
      try simp only [Act.put, List.setIfInBounds_toArray, List.set_cons_zero, List.set_cons_succ]
      refine OrdTo.take 8 (v := ?vr8) rfl (by kernel_rfl) (fun _ _ _ h => h) (by assumption) (by assumption) (by rfl) ?yr8 ?rr8
      case yr8 => (intro w hSw hTw; (try dsimp only at hSw hTw); go_split_ands; go_simp; try with_reducible rfl)
      try simp only [Act.put, List.setIfInBounds_toArray, List.set_cons_zero, List.set_cons_succ]
      refine OrdTo.takePure 9 (v := ?vr9) rfl (by kernel_rfl) (fun _ _ _ h => h) (fun _ => by assumption) (by assumption) (by rfl) ?yr9 ?rr9
      case yr9 => (intro w hTw; (try dsimp only at hTw); go_simp; try with_reducible rfl)
      try simp only [Act.put, List.setIfInBounds_toArray, List.set_cons_zero, List.set_cons_succ]
      refine OrdTo.takePure 10 (v := ?vr10) rfl (by kernel_rfl) (fun _ _ _ h => h) (fun _ => by assumption) (by assumption) (by rfl) ?yr10 ?rr10
      case yr10 => (intro w hTw; (try dsimp only at hTw); go_simp; try with_reducible rfl)
      try simp only [Act.put, List.setIfInBounds_toArray, List.set_cons_zero, List.set_cons_succ]
      refine OrdTo.takePure 11 (v := ?vr11) rfl (by kernel_rfl) (fun _ _ _ h => h) (fun _ => by assumption) (by assumption) (by rfl) ?yr11 ?rr11
      case yr11 => (intro w hTw; (try dsimp only at hTw); go_simp; try with_reducible rfl)
      try simp only [Act.put, List.setIfInBounds_toArray, List.set_cons_zero, List.set_cons_succ]
      refine OrdTo.takePure 12 (v := ?vr12) rfl (by kernel_rfl) (fun _ _ _ h => h) (fun _ => by assumption) (by assumption) (by rfl) ?yr12 ?rr12
      case yr12 => (intro w hTw; (try dsimp only at hTw); go_simp; try with_reducible rfl)
      try simp only [Act.put, List.setIfInBounds_toArray, List.set_cons_zero, List.set_cons_succ]
      refine OrdTo.takePure 13 (v := ?vr13) rfl (by kernel_rfl) (fun _ _ _ h => h) (fun _ => by assumption) (by assumption) (by rfl) ?yr13 ?rr13
      case yr13 => (intro w hTw; (try dsimp only at hTw); go_simp; try with_reducible rfl)
      try simp only [Act.put, List.setIfInBounds_toArray, List.set_cons_zero, List.set_cons_succ]
      refine OrdTo.takePure 14 (v := ?vr14) rfl (by kernel_rfl) (fun _ _ _ h => h) (fun _ => by assumption) (by assumption) (by rfl) ?yr14 ?rr14
      case yr14 => (intro w hTw; (try dsimp only at hTw); go_simp; try with_reducible rfl)
      try simp only [Act.put, List.setIfInBounds_toArray, List.set_cons_zero, List.set_cons_succ]
      refine OrdTo.take 15 (v := ?vr15) rfl (by kernel_rfl) (fun _ _ _ h => h) (by assumption) (by assumption) (by rfl) ?yr15 ?rr15
      case yr15 => (intro w hSw hTw; (try dsimp only at hSw hTw); go_split_ands; go_simp; try with_reducible rfl)
      try simp only [Act.put, List.setIfInBounds_toArray, List.set_cons_zero, List.set_cons_succ]
      refine OrdTo.takePure 16 (v := ?vr16) rfl (by kernel_rfl) (fun _ _ _ h => h) (fun _ => by assumption) (by assumption) (by rfl) ?yr16 ?rr16
      case yr16 => (intro w hTw; (try dsimp only at hTw); go_simp; try with_reducible rfl)
      try simp only [Act.put, List.setIfInBounds_toArray, List.set_cons_zero, List.set_cons_succ]
      refine OrdTo.takePure 17 (v := ?vr17) rfl (by kernel_rfl) (fun _ _ _ h => h) (fun _ => by assumption) (by assumption) (by rfl) ?yr17 ?rr17
      case yr17 => (intro w hTw; (try dsimp only at hTw); go_simp; try with_reducible rfl)
      try simp only [Act.put, List.setIfInBounds_toArray, List.set_cons_zero, List.set_cons_succ]
      refine OrdTo.takePure 18 (v := ?vr18) rfl (by kernel_rfl) (fun _ _ _ h => h) (fun _ => by assumption) (by assumption) (by rfl) ?yr18 ?rr18
      case yr18 => (intro w hTw; (try dsimp only at hTw); go_simp; try with_reducible rfl)
      try simp only [Act.put, List.setIfInBounds_toArray, List.set_cons_zero, List.set_cons_succ]
      refine OrdTo.takePure 19 (v := ?vr19) rfl (by kernel_rfl) (fun _ _ _ h => h) (fun _ => by assumption) (by assumption) (by rfl) ?yr19 ?rr19
      case yr19 => (intro w hTw; (try dsimp only at hTw); go_simp; try with_reducible rfl)
      try simp only [Act.put, List.setIfInBounds_toArray, List.set_cons_zero, List.set_cons_succ]
      refine OrdTo.take 20 (v := ?vr20) rfl (by kernel_rfl) (fun _ _ _ h => h) (by assumption) (by assumption) (by rfl) ?yr20 ?rr20
      case yr20 => (intro w hSw hTw; (try dsimp only at hSw hTw); go_split_ands; go_simp; try with_reducible rfl)
      try simp only [Act.put, List.setIfInBounds_toArray, List.set_cons_zero, List.set_cons_succ]
      refine OrdTo.takePure 21 (v := ?vr21) rfl (by kernel_rfl) (fun _ _ _ h => h) (fun _ => by assumption) (by assumption) (by rfl) ?yr21 ?rr21
      case yr21 => (intro w hTw; (try dsimp only at hTw); go_simp; try with_reducible rfl)
      try simp only [Act.put, List.setIfInBounds_toArray, List.set_cons_zero, List.set_cons_succ]
      refine OrdTo.takePure 22 (v := ?vr22) rfl (by kernel_rfl) (fun _ _ _ h => h) (fun _ => by assumption) (by assumption) (by rfl) ?yr22 ?rr22
      case yr22 => (intro w hTw; (try dsimp only at hTw); go_simp; try with_reducible rfl)
      try simp only [Act.put, List.setIfInBounds_toArray, List.set_cons_zero, List.set_cons_succ]
      refine OrdTo.takePure 23 (v := ?vr23) rfl (by kernel_rfl) (fun _ _ _ h => h) (fun _ => by assumption) (by assumption) (by rfl) ?yr23 ?rr23
      case yr23 => (intro w hTw; (try dsimp only at hTw); go_simp; try with_reducible rfl)
      try simp only [Act.put, List.setIfInBounds_toArray, List.set_cons_zero, List.set_cons_succ]
      refine OrdTo.take 24 (v := ?vr24) rfl (by kernel_rfl) (fun _ _ _ h => h) (by assumption) (by assumption) (by rfl) ?yr24 ?rr24
      case yr24 => (intro w hSw hTw; (try dsimp only at hSw hTw); go_split_ands; go_simp; try with_reducible rfl)
      try simp only [Act.put, List.setIfInBounds_toArray, List.set_cons_zero, List.set_cons_succ]
      refine OrdTo.takePure 25 (v := ?vr25) rfl (by kernel_rfl) (fun _ _ _ h => h) (fun _ => by assumption) (by assumption) (by rfl) ?yr25 ?rr25
      case yr25 => (intro w hTw; (try dsimp only at hTw); go_simp; try with_reducible rfl)
      try simp only [Act.put, List.setIfInBounds_toArray, List.set_cons_zero, List.set_cons_succ]
      refine OrdTo.takePure 26 (v := ?vr26) rfl (by kernel_rfl) (fun _ _ _ h => h) (fun _ => by assumption) (by assumption) (by rfl) ?yr26 ?rr26
      case yr26 => (intro w hTw; (try dsimp only at hTw); go_simp; try with_reducible rfl)
      try simp only [Act.put, List.setIfInBounds_toArray, List.set_cons_zero, List.set_cons_succ]
      refine OrdTo.take 27 (v := ?vr27) rfl (by kernel_rfl) (fun _ _ _ h => h) (by assumption) (by assumption) (by rfl) ?yr27 ?rr27
      case yr27 => (intro w hSw hTw; (try dsimp only at hSw hTw); go_split_ands; go_simp; try with_reducible rfl)
      try simp only [Act.put, List.setIfInBounds_toArray, List.set_cons_zero, List.set_cons_succ]
      refine OrdTo.takePure 28 (v := ?vr28) rfl (by kernel_rfl) (fun _ _ _ h => h) (fun _ => by assumption) (by assumption) (by rfl) ?yr28 ?rr28
      case yr28 => (intro w hTw; (try dsimp only at hTw); go_simp; try with_reducible rfl)
      try simp only [Act.put, List.setIfInBounds_toArray, List.set_cons_zero, List.set_cons_succ]
      refine OrdTo.step 29 rfl (by kernel_rfl) (by rfl) (fun K hK => ?_)
      go_simp
      refine hK _ _ (no_false (by kernel_rfl)) ?tr29 ?_
      case tr29 => (first | exact cell_far hT hgmx _ | exact cell_far (cell_far hT hgmx _) hgmx _)
      clear hK K
      try simp only [Act.put, List.setIfInBounds_toArray, List.set_cons_zero, List.set_cons_succ]
      refine OrdTo.takePure 30 (v := ?vr30) rfl (by kernel_rfl) (fun _ _ _ h => h) (no_false (by kernel_rfl)) (by (first | exact cell_far hT hgmx _ | exact cell_far (cell_far hT hgmx _) hgmx _)) (by rfl) ?yr30 ?rr30
      case yr30 => (intro w hTw; (try dsimp only at hTw); go_simp; try with_reducible rfl)
      try simp only [Act.put, List.setIfInBounds_toArray, List.set_cons_zero, List.set_cons_succ]
      refine OrdTo.step 31 rfl (by kernel_rfl) (by rfl) (fun K hK => ?_)
      go_simp
      refine hK _ _ (no_false (by kernel_rfl)) ?tr31 ?_
      case tr31 => (first | exact cell_far hT hgmx _ | exact cell_far (cell_far hT hgmx _) hgmx _)
      clear hK K
      try simp only [Act.put, List.setIfInBounds_toArray, List.set_cons_zero, List.set_cons_succ]
      refine OrdTo.done (by kernel_rfl) ?_
      have HSb := Lib.hid (HSa.out.swapM n (n) hn (by omega))
      rw [E1.out] at HSb
      have HFb : Hid (Fr (· < base) w _) := (HFa.out.setCell (p := ⟨gm, n, none⟩) (fun _ => by simp; exact hgmb) (.slice (some ⟨g1, 0, none⟩) N c1)).setCell (p := ⟨gm, n, none⟩) (fun _ => by simp; exact hgmb) (.slice (some ⟨g1, 0, none⟩) N c1)
      have HXb : Hid (Bk _ w.heap.size 3 #[.int .i64 (n : Int)]) := (HXa.out.far (p := ⟨gm, n, none⟩) hgmx (.slice (some ⟨g1, 0, none⟩) N c1)).far (p := ⟨gm, n, none⟩) hgmx (.slice (some ⟨g1, 0, none⟩) N c1)
      clear hS hT z1 HSa HFa HXa
      generalize (W3.setCell ⟨gm, n, none⟩ (.slice (some ⟨g1, 0, none⟩) N c1)).setCell ⟨gm, n, none⟩ (.slice (some ⟨g1, 0, none⟩) N c1) = W4 at *
      go_wp2_with fail
      have HSa : Hid (Slv W4.drew base s tg gm cm go co N (swapV n (n) rm) ro (swapF n (n) Fm) Fo) := HSb.out.below (Below.refl _ _).drew
      have HFa : Hid (Fr (· < base) w W4.drew) := HFb.out.drew
      have hsB := HSb.out.blk.cell 2
      have hxB := HXb.out.cell 0
      simp at hsB hxB
      obtain ⟨aB, zaB⟩ := HSb.out.atO n hn
      rw [E3.out] at aB
      clear HSb HFb HXb
      have hS : (fun w' : World => w'.cell? ⟨s, 2, none⟩ = some (.slice (some ⟨go, 0, none⟩) N co) ∧ w'.cell? ⟨go, n, none⟩ = some (.slice (some ⟨g3, 0, none⟩) N c3)) W4.drew := ⟨hsB, aB⟩
      have hT : (fun w' : World => w'.cell? ⟨w.heap.size, 0, none⟩ = some (.int .i64 (n : Int))) W4.drew := hxB
      have z1 : W4.drew.frozen? ⟨go, n, none⟩ = false := zaB
      refine OrdTo.begin_ (fun w' : World => w'.cell? ⟨s, 2, none⟩ = some (.slice (some ⟨go, 0, none⟩) N co) ∧ w'.cell? ⟨go, n, none⟩ = some (.slice (some ⟨g3, 0, none⟩) N c3)) (fun w' : World => w'.cell? ⟨w.heap.size, 0, none⟩ = some (.int .i64 (n : Int))) 29 (by kernel_rfl) ?_
      clear hsB hxB aB zaB
      generalize W4.drew = W5 at *
      refine OrdTo.takePure 0 (v := ?vt0) rfl (by kernel_rfl) (fun _ _ _ h => h) (fun _ => by assumption) (by assumption) (by rfl) ?yt0 ?rt0
      case yt0 => (intro w hTw; (try dsimp only at hTw); go_simp; try with_reducible rfl)
      try simp only [Act.put, List.setIfInBounds_toArray, List.set_cons_zero, List.set_cons_succ]
      refine OrdTo.takePure 1 (v := ?vt1) rfl (by kernel_rfl) (fun _ _ _ h => h) (fun _ => by assumption) (by assumption) (by rfl) ?yt1 ?rt1
      case yt1 => (intro w hTw; (try dsimp only at hTw); go_simp; try with_reducible rfl)
      try simp only [Act.put, List.setIfInBounds_toArray, List.set_cons_zero, List.set_cons_succ]
      refine OrdTo.takePure 2 (v := ?vt2) rfl (by kernel_rfl) (fun _ _ _ h => h) (fun _ => by assumption) (by assumption) (by rfl) ?yt2 ?rt2
      case yt2 => (intro w hTw; (try dsimp only at hTw); go_simp; try with_reducible rfl)
      try simp only [Act.put, List.setIfInBounds_toArray, List.set_cons_zero, List.set_cons_succ]
      refine OrdTo.take 3 (v := ?vt3) rfl (by kernel_rfl) (fun _ _ _ h => h) (by assumption) (by assumption) (by rfl) ?yt3 ?rt3
      case yt3 => (intro w hSw hTw; (try dsimp only at hSw hTw); go_split_ands; go_simp; try with_reducible rfl)
      try simp only [Act.put, List.setIfInBounds_toArray, List.set_cons_zero, List.set_cons_succ]
      refine OrdTo.takePure 4 (v := ?vt4) rfl (by kernel_rfl) (fun _ _ _ h => h) (fun _ => by assumption) (by assumption) (by rfl) ?yt4 ?rt4
      case yt4 => (intro w hTw; (try dsimp only at hTw); go_simp; try with_reducible rfl)
      try simp only [Act.put, List.setIfInBounds_toArray, List.set_cons_zero, List.set_cons_succ]
      refine OrdTo.takePure 5 (v := ?vt5) rfl (by kernel_rfl) (fun _ _ _ h => h) (fun _ => by assumption) (by assumption) (by rfl) ?yt5 ?rt5
      case yt5 => (intro w hTw; (try dsimp only at hTw); go_simp; try with_reducible rfl)
      try simp only [Act.put, List.setIfInBounds_toArray, List.set_cons_zero, List.set_cons_succ]
      refine OrdTo.takePure 6 (v := ?vt6) rfl (by kernel_rfl) (fun _ _ _ h => h) (fun _ => by assumption) (by assumption) (by rfl) ?yt6 ?rt6
      case yt6 => (intro w hTw; (try dsimp only at hTw); go_simp; try with_reducible rfl)
      try simp only [Act.put, List.setIfInBounds_toArray, List.set_cons_zero, List.set_cons_succ]
      refine OrdTo.takePure 7 (v := ?vt7) rfl (by kernel_rfl) (fun _ _ _ h => h) (fun _ => by assumption) (by assumption) (by rfl) ?yt7 ?rt7
      case yt7 => (intro w hTw; (try dsimp only at hTw); go_simp; try with_reducible rfl)
      try simp only [Act.put, List.setIfInBounds_toArray, List.set_cons_zero, List.set_cons_succ]
      refine OrdTo.take 8 (v := ?vt8) rfl (by kernel_rfl) (fun _ _ _ h => h) (by assumption) (by assumption) (by rfl) ?yt8 ?rt8
      case yt8 => (intro w hSw hTw; (try dsimp only at hSw hTw); go_split_ands; go_simp; try with_reducible rfl)
      try simp only [Act.put, List.setIfInBounds_toArray, List.set_cons_zero, List.set_cons_succ]
      refine OrdTo.takePure 9 (v := ?vt9) rfl (by kernel_rfl) (fun _ _ _ h => h) (fun _ => by assumption) (by assumption) (by rfl) ?yt9 ?rt9
      case yt9 => (intro w hTw; (try dsimp only at hTw); go_simp; try with_reducible rfl)
      try simp only [Act.put, List.setIfInBounds_toArray, List.set_cons_zero, List.set_cons_succ]
      refine OrdTo.takePure 10 (v := ?vt10) rfl (by kernel_rfl) (fun _ _ _ h => h) (fun _ => by assumption) (by assumption) (by rfl) ?yt10 ?rt10
      case yt10 => (intro w hTw; (try dsimp only at hTw); go_simp; try with_reducible rfl)
      try simp only [Act.put, List.setIfInBounds_toArray, List.set_cons_zero, List.set_cons_succ]
      refine OrdTo.takePure 11 (v := ?vt11) rfl (by kernel_rfl) (fun _ _ _ h => h) (fun _ => by assumption) (by assumption) (by rfl) ?yt11 ?rt11
      case yt11 => (intro w hTw; (try dsimp only at hTw); go_simp; try with_reducible rfl)
      try simp only [Act.put, List.setIfInBounds_toArray, List.set_cons_zero, List.set_cons_succ]
      refine OrdTo.takePure 12 (v := ?vt12) rfl (by kernel_rfl) (fun _ _ _ h => h) (fun _ => by assumption) (by assumption) (by rfl) ?yt12 ?rt12
      case yt12 => (intro w hTw; (try dsimp only at hTw); go_simp; try with_reducible rfl)
      try simp only [Act.put, List.setIfInBounds_toArray, List.set_cons_zero, List.set_cons_succ]
      refine OrdTo.takePure 13 (v := ?vt13) rfl (by kernel_rfl) (fun _ _ _ h => h) (fun _ => by assumption) (by assumption) (by rfl) ?yt13 ?rt13
      case yt13 => (intro w hTw; (try dsimp only at hTw); go_simp; try with_reducible rfl)
      try simp only [Act.put, List.setIfInBounds_toArray, List.set_cons_zero, List.set_cons_succ]
      refine OrdTo.takePure 14 (v := ?vt14) rfl (by kernel_rfl) (fun _ _ _ h => h) (fun _ => by assumption) (by assumption) (by rfl) ?yt14 ?rt14
      case yt14 => (intro w hTw; (try dsimp only at hTw); go_simp; try with_reducible rfl)
      try simp only [Act.put, List.setIfInBounds_toArray, List.set_cons_zero, List.set_cons_succ]
      refine OrdTo.take 15 (v := ?vt15) rfl (by kernel_rfl) (fun _ _ _ h => h) (by assumption) (by assumption) (by rfl) ?yt15 ?rt15
      case yt15 => (intro w hSw hTw; (try dsimp only at hSw hTw); go_split_ands; go_simp; try with_reducible rfl)
      try simp only [Act.put, List.setIfInBounds_toArray, List.set_cons_zero, List.set_cons_succ]
      refine OrdTo.takePure 16 (v := ?vt16) rfl (by kernel_rfl) (fun _ _ _ h => h) (fun _ => by assumption) (by assumption) (by rfl) ?yt16 ?rt16
      case yt16 => (intro w hTw; (try dsimp only at hTw); go_simp; try with_reducible rfl)
      try simp only [Act.put, List.setIfInBounds_toArray, List.set_cons_zero, List.set_cons_succ]
      refine OrdTo.takePure 17 (v := ?vt17) rfl (by kernel_rfl) (fun _ _ _ h => h) (fun _ => by assumption) (by assumption) (by rfl) ?yt17 ?rt17
      case yt17 => (intro w hTw; (try dsimp only at hTw); go_simp; try with_reducible rfl)
      try simp only [Act.put, List.setIfInBounds_toArray, List.set_cons_zero, List.set_cons_succ]
      refine OrdTo.takePure 18 (v := ?vt18) rfl (by kernel_rfl) (fun _ _ _ h => h) (fun _ => by assumption) (by assumption) (by rfl) ?yt18 ?rt18
      case yt18 => (intro w hTw; (try dsimp only at hTw); go_simp; try with_reducible rfl)
      try simp only [Act.put, List.setIfInBounds_toArray, List.set_cons_zero, List.set_cons_succ]
      refine OrdTo.takePure 19 (v := ?vt19) rfl (by kernel_rfl) (fun _ _ _ h => h) (fun _ => by assumption) (by assumption) (by rfl) ?yt19 ?rt19
      case yt19 => (intro w hTw; (try dsimp only at hTw); go_simp; try with_reducible rfl)
      try simp only [Act.put, List.setIfInBounds_toArray, List.set_cons_zero, List.set_cons_succ]
      refine OrdTo.take 20 (v := ?vt20) rfl (by kernel_rfl) (fun _ _ _ h => h) (by assumption) (by assumption) (by rfl) ?yt20 ?rt20
      case yt20 => (intro w hSw hTw; (try dsimp only at hSw hTw); go_split_ands; go_simp; try with_reducible rfl)
      try simp only [Act.put, List.setIfInBounds_toArray, List.set_cons_zero, List.set_cons_succ]
      refine OrdTo.takePure 21 (v := ?vt21) rfl (by kernel_rfl) (fun _ _ _ h => h) (fun _ => by assumption) (by assumption) (by rfl) ?yt21 ?rt21
      case yt21 => (intro w hTw; (try dsimp only at hTw); go_simp; try with_reducible rfl)
      try simp only [Act.put, List.setIfInBounds_toArray, List.set_cons_zero, List.set_cons_succ]
      refine OrdTo.takePure 22 (v := ?vt22) rfl (by kernel_rfl) (fun _ _ _ h => h) (fun _ => by assumption) (by assumption) (by rfl) ?yt22 ?rt22
      case yt22 => (intro w hTw; (try dsimp only at hTw); go_simp; try with_reducible rfl)
      try simp only [Act.put, List.setIfInBounds_toArray, List.set_cons_zero, List.set_cons_succ]
      refine OrdTo.takePure 23 (v := ?vt23) rfl (by kernel_rfl) (fun _ _ _ h => h) (fun _ => by assumption) (by assumption) (by rfl) ?yt23 ?rt23
      case yt23 => (intro w hTw; (try dsimp only at hTw); go_simp; try with_reducible rfl)
      try simp only [Act.put, List.setIfInBounds_toArray, List.set_cons_zero, List.set_cons_succ]
      refine OrdTo.take 24 (v := ?vt24) rfl (by kernel_rfl) (fun _ _ _ h => h) (by assumption) (by assumption) (by rfl) ?yt24 ?rt24
      case yt24 => (intro w hSw hTw; (try dsimp only at hSw hTw); go_split_ands; go_simp; try with_reducible rfl)
      try simp only [Act.put, List.setIfInBounds_toArray, List.set_cons_zero, List.set_cons_succ]
      refine OrdTo.takePure 25 (v := ?vt25) rfl (by kernel_rfl) (fun _ _ _ h => h) (fun _ => by assumption) (by assumption) (by rfl) ?yt25 ?rt25
      case yt25 => (intro w hTw; (try dsimp only at hTw); go_simp; try with_reducible rfl)
      try simp only [Act.put, List.setIfInBounds_toArray, List.set_cons_zero, List.set_cons_succ]
      refine OrdTo.takePure 26 (v := ?vt26) rfl (by kernel_rfl) (fun _ _ _ h => h) (fun _ => by assumption) (by assumption) (by rfl) ?yt26 ?rt26
      case yt26 => (intro w hTw; (try dsimp only at hTw); go_simp; try with_reducible rfl)
      try simp only [Act.put, List.setIfInBounds_toArray, List.set_cons_zero, List.set_cons_succ]
      refine OrdTo.take 27 (v := ?vt27) rfl (by kernel_rfl) (fun _ _ _ h => h) (by assumption) (by assumption) (by rfl) ?yt27 ?rt27
      case yt27 => (intro w hSw hTw; (try dsimp only at hSw hTw); go_split_ands; go_simp; try with_reducible rfl)
      try simp only [Act.put, List.setIfInBounds_toArray, List.set_cons_zero, List.set_cons_succ]
      refine OrdTo.takePure 28 (v := ?vt28) rfl (by kernel_rfl) (fun _ _ _ h => h) (fun _ => by assumption) (by assumption) (by rfl) ?yt28 ?rt28
      case yt28 => (intro w hTw; (try dsimp only at hTw); go_simp; try with_reducible rfl)
      try simp only [Act.put, List.setIfInBounds_toArray, List.set_cons_zero, List.set_cons_succ]
      refine OrdTo.step 29 rfl (by kernel_rfl) (by rfl) (fun K hK => ?_)
      go_simp
      refine hK _ _ (no_false (by kernel_rfl)) ?tt29 ?_
      case tt29 => (first | exact cell_far hT hgox _ | exact cell_far (cell_far hT hgox _) hgox _)
      clear hK K
      try simp only [Act.put, List.setIfInBounds_toArray, List.set_cons_zero, List.set_cons_succ]
      refine OrdTo.takePure 30 (v := ?vt30) rfl (by kernel_rfl) (fun _ _ _ h => h) (no_false (by kernel_rfl)) (by (first | exact cell_far hT hgox _ | exact cell_far (cell_far hT hgox _) hgox _)) (by rfl) ?yt30 ?rt30
      case yt30 => (intro w hTw; (try dsimp only at hTw); go_simp; try with_reducible rfl)
      try simp only [Act.put, List.setIfInBounds_toArray, List.set_cons_zero, List.set_cons_succ]
      refine OrdTo.step 31 rfl (by kernel_rfl) (by rfl) (fun K hK => ?_)
      go_simp
      refine hK _ _ (no_false (by kernel_rfl)) ?tt31 ?_
      case tt31 => (first | exact cell_far hT hgox _ | exact cell_far (cell_far hT hgox _) hgox _)
      clear hK K
      try simp only [Act.put, List.setIfInBounds_toArray, List.set_cons_zero, List.set_cons_succ]
      refine OrdTo.done (by kernel_rfl) ?_
      have HSb := Lib.hid (HSa.out.swapO n (n) hn (by omega))
      rw [E3.out] at HSb
      have HFb : Hid (Fr (· < base) w _) := (HFa.out.setCell (p := ⟨go, n, none⟩) (fun _ => by simp; exact hgob) (.slice (some ⟨g3, 0, none⟩) N c3)).setCell (p := ⟨go, n, none⟩) (fun _ => by simp; exact hgob) (.slice (some ⟨g3, 0, none⟩) N c3)
      clear hS hT z1 HSa HFa
      generalize (W5.setCell ⟨go, n, none⟩ (.slice (some ⟨g3, 0, none⟩) N c3)).setCell ⟨go, n, none⟩ (.slice (some ⟨g3, 0, none⟩) N c3) = W6 at *
      go_wp2_with fail
      go_ret
      exact .inl ⟨n, by omega, by omega, Hp.out, rfl, HSb.out, HFb.out⟩
    · obtain ⟨m2, mz2⟩ := HS2.out.atM (n + k) (by omega)
      obtain ⟨o2, oz2⟩ := HS2.out.atO (n + k) (by omega)
      obtain ⟨g2, c2, e2, -, -, -⟩ := own_form (HS2.out.rowM (n + k) (by omega)) (by omega)
      obtain ⟨g4, c4, e4, -, -, -⟩ := own_form (HS2.out.rowO (n + k) (by omega)) (by omega)
      rw [e2] at m2
      rw [e4] at o2
      have E2 := Lib.hid e2
      have E4 := Lib.hid e4
      clear e2 e4
      have htn : ((n : Int) + (k : Int)).toNat = n + k := by omega
      have hin : (n : Int) + (k : Int) < (N : Int) := by omega
      have hin0 : 0 ≤ (n : Int) + (k : Int) := by omega
      have HSa : Hid (Slv W2.drew base s tg gm cm go co N rm ro Fm Fo) := HS2.out.below (Below.refl _ _).drew
      have HFa : Hid (Fr (· < base) w W2.drew) := HF2.out.drew
      have HXa : Hid (Bk W2.drew w.heap.size 3 #[.int .i64 (n : Int)]) := HX2.out.drew
      have hsA := hs1
      have hxA := hx0
      have aA := m1
      have zaA := mz1
      have bA := m2
      have zbA := mz2
      clear hs1 hs2 hx0 m1 mz1 o1 oz1 m2 mz2 o2 oz2 HS2 HF2 HX2
      have hS : (fun w' : World => w'.cell? ⟨s, 1, none⟩ = some (.slice (some ⟨gm, 0, none⟩) N cm) ∧ w'.cell? ⟨gm, n, none⟩ = some (.slice (some ⟨g1, 0, none⟩) N c1) ∧ w'.cell? ⟨gm, n + k, none⟩ = some (.slice (some ⟨g2, 0, none⟩) N c2)) W2.drew := ⟨hsA, aA, bA⟩
      have hT : (fun w' : World => w'.cell? ⟨w.heap.size, 0, none⟩ = some (.int .i64 (n : Int))) W2.drew := hxA
      have z1 : W2.drew.frozen? ⟨gm, n, none⟩ = false := zaA
      have z2 : W2.drew.frozen? ⟨gm, n + k, none⟩ = false := zbA
      refine OrdTo.begin_ (fun w' : World => w'.cell? ⟨s, 1, none⟩ = some (.slice (some ⟨gm, 0, none⟩) N cm) ∧ w'.cell? ⟨gm, n, none⟩ = some (.slice (some ⟨g1, 0, none⟩) N c1) ∧ w'.cell? ⟨gm, n + k, none⟩ = some (.slice (some ⟨g2, 0, none⟩) N c2)) (fun w' : World => w'.cell? ⟨w.heap.size, 0, none⟩ = some (.int .i64 (n : Int))) 29 (by kernel_rfl) ?_
      clear hsA hxA aA zaA bA zbA
      generalize W2.drew = W3 at *
      refine OrdTo.takePure 0 (v := ?vq0) rfl (by kernel_rfl) (fun _ _ _ h => h) (fun _ => by assumption) (by assumption) (by rfl) ?yq0 ?rq0
      case yq0 => (intro w hTw; (try dsimp only at hTw); go_simp; try with_reducible rfl)
      try simp only [Act.put, List.setIfInBounds_toArray, List.set_cons_zero, List.set_cons_succ]
      refine OrdTo.takePure 1 (v := ?vq1) rfl (by kernel_rfl) (fun _ _ _ h => h) (fun _ => by assumption) (by assumption) (by rfl) ?yq1 ?rq1
      case yq1 => (intro w hTw; (try dsimp only at hTw); go_simp; try with_reducible rfl)
      try simp only [Act.put, List.setIfInBounds_toArray, List.set_cons_zero, List.set_cons_succ]
      refine OrdTo.takePure 2 (v := ?vq2) rfl (by kernel_rfl) (fun _ _ _ h => h) (fun _ => by assumption) (by assumption) (by rfl) ?yq2 ?rq2
      case yq2 => (intro w hTw; (try dsimp only at hTw); go_simp; try with_reducible rfl)
      try simp only [Act.put, List.setIfInBounds_toArray, List.set_cons_zero, List.set_cons_succ]
      refine OrdTo.take 3 (v := ?vq3) rfl (by kernel_rfl) (fun _ _ _ h => h) (by assumption) (by assumption) (by rfl) ?yq3 ?rq3
      case yq3 => (intro w hSw hTw; (try dsimp only at hSw hTw); go_split_ands; go_simp; try with_reducible rfl)
      try simp only [Act.put, List.setIfInBounds_toArray, List.set_cons_zero, List.set_cons_succ]
      refine OrdTo.takePure 4 (v := ?vq4) rfl (by kernel_rfl) (fun _ _ _ h => h) (fun _ => by assumption) (by assumption) (by rfl) ?yq4 ?rq4
      case yq4 => (intro w hTw; (try dsimp only at hTw); go_simp; try with_reducible rfl)
      try simp only [Act.put, List.setIfInBounds_toArray, List.set_cons_zero, List.set_cons_succ]
      refine OrdTo.takePure 5 (v := ?vq5) rfl (by kernel_rfl) (fun _ _ _ h => h) (fun _ => by assumption) (by assumption) (by rfl) ?yq5 ?rq5
      case yq5 => (intro w hTw; (try dsimp only at hTw); go_simp; try with_reducible rfl)
      try simp only [Act.put, List.setIfInBounds_toArray, List.set_cons_zero, List.set_cons_succ]
      refine OrdTo.takePure 6 (v := ?vq6) rfl (by kernel_rfl) (fun _ _ _ h => h) (fun _ => by assumption) (by assumption) (by rfl) ?yq6 ?rq6
      case yq6 => (intro w hTw; (try dsimp only at hTw); go_simp; try with_reducible rfl)
      try simp only [Act.put, List.setIfInBounds_toArray, List.set_cons_zero, List.set_cons_succ]
      refine OrdTo.takePure 7 (v := ?vq7) rfl (by kernel_rfl) (fun _ _ _ h => h) (fun _ => by assumption) (by assumption) (by rfl) ?yq7 ?rq7
      case yq7 => (intro w hTw; (try dsimp only at hTw); go_simp; try with_reducible rfl)
      try simp only [Act.put, List.setIfInBounds_toArray, List.set_cons_zero, List.set_cons_succ]
      refine OrdTo.take 8 (v := ?vq8) rfl (by kernel_rfl) (fun _ _ _ h => h) (by assumption) (by assumption) (by rfl) ?yq8 ?rq8
      case yq8 => (intro w hSw hTw; (try dsimp only at hSw hTw); go_split_ands; go_simp; try with_reducible rfl)
      try simp only [Act.put, List.setIfInBounds_toArray, List.set_cons_zero, List.set_cons_succ]
      refine OrdTo.takePure 9 (v := ?vq9) rfl (by kernel_rfl) (fun _ _ _ h => h) (fun _ => by assumption) (by assumption) (by rfl) ?yq9 ?rq9
      case yq9 => (intro w hTw; (try dsimp only at hTw); go_simp; try with_reducible rfl)
      try simp only [Act.put, List.setIfInBounds_toArray, List.set_cons_zero, List.set_cons_succ]
      refine OrdTo.takePure 10 (v := ?vq10) rfl (by kernel_rfl) (fun _ _ _ h => h) (fun _ => by assumption) (by assumption) (by rfl) ?yq10 ?rq10
      case yq10 => (intro w hTw; (try dsimp only at hTw); go_simp; try with_reducible rfl)
      try simp only [Act.put, List.setIfInBounds_toArray, List.set_cons_zero, List.set_cons_succ]
      refine OrdTo.takePure 11 (v := ?vq11) rfl (by kernel_rfl) (fun _ _ _ h => h) (fun _ => by assumption) (by assumption) (by rfl) ?yq11 ?rq11
      case yq11 => (intro w hTw; (try dsimp only at hTw); go_simp; try with_reducible rfl)
      try simp only [Act.put, List.setIfInBounds_toArray, List.set_cons_zero, List.set_cons_succ]
      refine OrdTo.takePure 12 (v := ?vq12) rfl (by kernel_rfl) (fun _ _ _ h => h) (fun _ => by assumption) (by assumption) (by rfl) ?yq12 ?rq12
      case yq12 => (intro w hTw; (try dsimp only at hTw); go_simp; try with_reducible rfl)
      try simp only [Act.put, List.setIfInBounds_toArray, List.set_cons_zero, List.set_cons_succ]
      refine OrdTo.takePure 13 (v := ?vq13) rfl (by kernel_rfl) (fun _ _ _ h => h) (fun _ => by assumption) (by assumption) (by rfl) ?yq13 ?rq13
      case yq13 => (intro w hTw; (try dsimp only at hTw); go_simp; try with_reducible rfl)
      try simp only [Act.put, List.setIfInBounds_toArray, List.set_cons_zero, List.set_cons_succ]
      refine OrdTo.takePure 14 (v := ?vq14) rfl (by kernel_rfl) (fun _ _ _ h => h) (fun _ => by assumption) (by assumption) (by rfl) ?yq14 ?rq14
      case yq14 => (intro w hTw; (try dsimp only at hTw); go_simp; try with_reducible rfl)
      try simp only [Act.put, List.setIfInBounds_toArray, List.set_cons_zero, List.set_cons_succ]
      refine OrdTo.take 15 (v := ?vq15) rfl (by kernel_rfl) (fun _ _ _ h => h) (by assumption) (by assumption) (by rfl) ?yq15 ?rq15
      case yq15 => (intro w hSw hTw; (try dsimp only at hSw hTw); go_split_ands; go_simp; try with_reducible rfl)
      try simp only [Act.put, List.setIfInBounds_toArray, List.set_cons_zero, List.set_cons_succ]
      refine OrdTo.takePure 16 (v := ?vq16) rfl (by kernel_rfl) (fun _ _ _ h => h) (fun _ => by assumption) (by assumption) (by rfl) ?yq16 ?rq16
      case yq16 => (intro w hTw; (try dsimp only at hTw); go_simp; try with_reducible rfl)
      try simp only [Act.put, List.setIfInBounds_toArray, List.set_cons_zero, List.set_cons_succ]
      refine OrdTo.takePure 17 (v := ?vq17) rfl (by kernel_rfl) (fun _ _ _ h => h) (fun _ => by assumption) (by assumption) (by rfl) ?yq17 ?rq17
      case yq17 => (intro w hTw; (try dsimp only at hTw); go_simp; try with_reducible rfl)
      try simp only [Act.put, List.setIfInBounds_toArray, List.set_cons_zero, List.set_cons_succ]
      refine OrdTo.takePure 18 (v := ?vq18) rfl (by kernel_rfl) (fun _ _ _ h => h) (fun _ => by assumption) (by assumption) (by rfl) ?yq18 ?rq18
      case yq18 => (intro w hTw; (try dsimp only at hTw); go_simp; try with_reducible rfl)
      try simp only [Act.put, List.setIfInBounds_toArray, List.set_cons_zero, List.set_cons_succ]
      refine OrdTo.takePure 19 (v := ?vq19) rfl (by kernel_rfl) (fun _ _ _ h => h) (fun _ => by assumption) (by assumption) (by rfl) ?yq19 ?rq19
      case yq19 => (intro w hTw; (try dsimp only at hTw); go_simp; try with_reducible rfl)
      try simp only [Act.put, List.setIfInBounds_toArray, List.set_cons_zero, List.set_cons_succ]
      refine OrdTo.take 20 (v := ?vq20) rfl (by kernel_rfl) (fun _ _ _ h => h) (by assumption) (by assumption) (by rfl) ?yq20 ?rq20
      case yq20 => (intro w hSw hTw; (try dsimp only at hSw hTw); go_split_ands; go_simp; try with_reducible rfl)
      try simp only [Act.put, List.setIfInBounds_toArray, List.set_cons_zero, List.set_cons_succ]
      refine OrdTo.takePure 21 (v := ?vq21) rfl (by kernel_rfl) (fun _ _ _ h => h) (fun _ => by assumption) (by assumption) (by rfl) ?yq21 ?rq21
      case yq21 => (intro w hTw; (try dsimp only at hTw); go_simp; try with_reducible rfl)
      try simp only [Act.put, List.setIfInBounds_toArray, List.set_cons_zero, List.set_cons_succ]
      refine OrdTo.takePure 22 (v := ?vq22) rfl (by kernel_rfl) (fun _ _ _ h => h) (fun _ => by assumption) (by assumption) (by rfl) ?yq22 ?rq22
      case yq22 => (intro w hTw; (try dsimp only at hTw); go_simp; try with_reducible rfl)
      try simp only [Act.put, List.setIfInBounds_toArray, List.set_cons_zero, List.set_cons_succ]
      refine OrdTo.takePure 23 (v := ?vq23) rfl (by kernel_rfl) (fun _ _ _ h => h) (fun _ => by assumption) (by assumption) (by rfl) ?yq23 ?rq23
      case yq23 => (intro w hTw; (try dsimp only at hTw); go_simp; try with_reducible rfl)
      try simp only [Act.put, List.setIfInBounds_toArray, List.set_cons_zero, List.set_cons_succ]
      refine OrdTo.take 24 (v := ?vq24) rfl (by kernel_rfl) (fun _ _ _ h => h) (by assumption) (by assumption) (by rfl) ?yq24 ?rq24
      case yq24 => (intro w hSw hTw; (try dsimp only at hSw hTw); go_split_ands; go_simp; try with_reducible rfl)
      try simp only [Act.put, List.setIfInBounds_toArray, List.set_cons_zero, List.set_cons_succ]
      refine OrdTo.takePure 25 (v := ?vq25) rfl (by kernel_rfl) (fun _ _ _ h => h) (fun _ => by assumption) (by assumption) (by rfl) ?yq25 ?rq25
      case yq25 => (intro w hTw; (try dsimp only at hTw); go_simp; try with_reducible rfl)
      try simp only [Act.put, List.setIfInBounds_toArray, List.set_cons_zero, List.set_cons_succ]
      refine OrdTo.takePure 26 (v := ?vq26) rfl (by kernel_rfl) (fun _ _ _ h => h) (fun _ => by assumption) (by assumption) (by rfl) ?yq26 ?rq26
      case yq26 => (intro w hTw; (try dsimp only at hTw); go_simp; try with_reducible rfl)
      try simp only [Act.put, List.setIfInBounds_toArray, List.set_cons_zero, List.set_cons_succ]
      refine OrdTo.take 27 (v := ?vq27) rfl (by kernel_rfl) (fun _ _ _ h => h) (by assumption) (by assumption) (by rfl) ?yq27 ?rq27
      case yq27 => (intro w hSw hTw; (try dsimp only at hSw hTw); go_split_ands; go_simp; try with_reducible rfl)
      try simp only [Act.put, List.setIfInBounds_toArray, List.set_cons_zero, List.set_cons_succ]
      refine OrdTo.takePure 28 (v := ?vq28) rfl (by kernel_rfl) (fun _ _ _ h => h) (fun _ => by assumption) (by assumption) (by rfl) ?yq28 ?rq28
      case yq28 => (intro w hTw; (try dsimp only at hTw); go_simp; try with_reducible rfl)
      try simp only [Act.put, List.setIfInBounds_toArray, List.set_cons_zero, List.set_cons_succ]
      refine OrdTo.step 29 rfl (by kernel_rfl) (by rfl) (fun K hK => ?_)
      go_simp
      refine hK _ _ (no_false (by kernel_rfl)) ?tq29 ?_
      case tq29 => (first | exact cell_far hT hgmx _ | exact cell_far (cell_far hT hgmx _) hgmx _)
      clear hK K
      try simp only [Act.put, List.setIfInBounds_toArray, List.set_cons_zero, List.set_cons_succ]
      refine OrdTo.takePure 30 (v := ?vq30) rfl (by kernel_rfl) (fun _ _ _ h => h) (no_false (by kernel_rfl)) (by (first | exact cell_far hT hgmx _ | exact cell_far (cell_far hT hgmx _) hgmx _)) (by rfl) ?yq30 ?rq30
      case yq30 => (intro w hTw; (try dsimp only at hTw); go_simp; try with_reducible rfl)
      try simp only [Act.put, List.setIfInBounds_toArray, List.set_cons_zero, List.set_cons_succ]
      refine OrdTo.step 31 rfl (by kernel_rfl) (by rfl) (fun K hK => ?_)
      go_simp
      refine hK _ _ (no_false (by kernel_rfl)) ?tq31 ?_
      case tq31 => (first | exact cell_far hT hgmx _ | exact cell_far (cell_far hT hgmx _) hgmx _)
      clear hK K
      try simp only [Act.put, List.setIfInBounds_toArray, List.set_cons_zero, List.set_cons_succ]
      refine OrdTo.done (by kernel_rfl) ?_
      have HSb := Lib.hid (HSa.out.swapM n (n + k) hn (by omega))
      rw [E1.out, E2.out] at HSb
      have HFb : Hid (Fr (· < base) w _) := (HFa.out.setCell (p := ⟨gm, n, none⟩) (fun _ => by simp; exact hgmb) (.slice (some ⟨g2, 0, none⟩) N c2)).setCell (p := ⟨gm, n + k, none⟩) (fun _ => by simp; exact hgmb) (.slice (some ⟨g1, 0, none⟩) N c1)
      have HXb : Hid (Bk _ w.heap.size 3 #[.int .i64 (n : Int)]) := (HXa.out.far (p := ⟨gm, n, none⟩) hgmx (.slice (some ⟨g2, 0, none⟩) N c2)).far (p := ⟨gm, n + k, none⟩) hgmx (.slice (some ⟨g1, 0, none⟩) N c1)
      clear hS hT z1 HSa HFa HXa z2
      generalize (W3.setCell ⟨gm, n, none⟩ (.slice (some ⟨g2, 0, none⟩) N c2)).setCell ⟨gm, n + k, none⟩ (.slice (some ⟨g1, 0, none⟩) N c1) = W4 at *
      go_wp2_with fail
      have HSa : Hid (Slv W4.drew base s tg gm cm go co N (swapV n (n + k) rm) ro (swapF n (n + k) Fm) Fo) := HSb.out.below (Below.refl _ _).drew
      have HFa : Hid (Fr (· < base) w W4.drew) := HFb.out.drew
      have hsB := HSb.out.blk.cell 2
      have hxB := HXb.out.cell 0
      simp at hsB hxB
      obtain ⟨aB, zaB⟩ := HSb.out.atO n hn
      rw [E3.out] at aB
      obtain ⟨bB, zbB⟩ := HSb.out.atO (n + k) (by omega)
      rw [E4.out] at bB
      clear HSb HFb HXb
      have hS : (fun w' : World => w'.cell? ⟨s, 2, none⟩ = some (.slice (some ⟨go, 0, none⟩) N co) ∧ w'.cell? ⟨go, n, none⟩ = some (.slice (some ⟨g3, 0, none⟩) N c3) ∧ w'.cell? ⟨go, n + k, none⟩ = some (.slice (some ⟨g4, 0, none⟩) N c4)) W4.drew := ⟨hsB, aB, bB⟩
      have hT : (fun w' : World => w'.cell? ⟨w.heap.size, 0, none⟩ = some (.int .i64 (n : Int))) W4.drew := hxB
      have z1 : W4.drew.frozen? ⟨go, n, none⟩ = false := zaB
      have z2 : W4.drew.frozen? ⟨go, n + k, none⟩ = false := zbB
      refine OrdTo.begin_ (fun w' : World => w'.cell? ⟨s, 2, none⟩ = some (.slice (some ⟨go, 0, none⟩) N co) ∧ w'.cell? ⟨go, n, none⟩ = some (.slice (some ⟨g3, 0, none⟩) N c3) ∧ w'.cell? ⟨go, n + k, none⟩ = some (.slice (some ⟨g4, 0, none⟩) N c4)) (fun w' : World => w'.cell? ⟨w.heap.size, 0, none⟩ = some (.int .i64 (n : Int))) 29 (by kernel_rfl) ?_
      clear hsB hxB aB zaB bB zbB
      generalize W4.drew = W5 at *
      refine OrdTo.takePure 0 (v := ?vs0) rfl (by kernel_rfl) (fun _ _ _ h => h) (fun _ => by assumption) (by assumption) (by rfl) ?ys0 ?rs0
      case ys0 => (intro w hTw; (try dsimp only at hTw); go_simp; try with_reducible rfl)
      try simp only [Act.put, List.setIfInBounds_toArray, List.set_cons_zero, List.set_cons_succ]
      refine OrdTo.takePure 1 (v := ?vs1) rfl (by kernel_rfl) (fun _ _ _ h => h) (fun _ => by assumption) (by assumption) (by rfl) ?ys1 ?rs1
      case ys1 => (intro w hTw; (try dsimp only at hTw); go_simp; try with_reducible rfl)
      try simp only [Act.put, List.setIfInBounds_toArray, List.set_cons_zero, List.set_cons_succ]
      refine OrdTo.takePure 2 (v := ?vs2) rfl (by kernel_rfl) (fun _ _ _ h => h) (fun _ => by assumption) (by assumption) (by rfl) ?ys2 ?rs2
      case ys2 => (intro w hTw; (try dsimp only at hTw); go_simp; try with_reducible rfl)
      try simp only [Act.put, List.setIfInBounds_toArray, List.set_cons_zero, List.set_cons_succ]
      refine OrdTo.take 3 (v := ?vs3) rfl (by kernel_rfl) (fun _ _ _ h => h) (by assumption) (by assumption) (by rfl) ?ys3 ?rs3
      case ys3 => (intro w hSw hTw; (try dsimp only at hSw hTw); go_split_ands; go_simp; try with_reducible rfl)
      try simp only [Act.put, List.setIfInBounds_toArray, List.set_cons_zero, List.set_cons_succ]
      refine OrdTo.takePure 4 (v := ?vs4) rfl (by kernel_rfl) (fun _ _ _ h => h) (fun _ => by assumption) (by assumption) (by rfl) ?ys4 ?rs4
      case ys4 => (intro w hTw; (try dsimp only at hTw); go_simp; try with_reducible rfl)
      try simp only [Act.put, List.setIfInBounds_toArray, List.set_cons_zero, List.set_cons_succ]
      refine OrdTo.takePure 5 (v := ?vs5) rfl (by kernel_rfl) (fun _ _ _ h => h) (fun _ => by assumption) (by assumption) (by rfl) ?ys5 ?rs5
      case ys5 => (intro w hTw; (try dsimp only at hTw); go_simp; try with_reducible rfl)
      try simp only [Act.put, List.setIfInBounds_toArray, List.set_cons_zero, List.set_cons_succ]
      refine OrdTo.takePure 6 (v := ?vs6) rfl (by kernel_rfl) (fun _ _ _ h => h) (fun _ => by assumption) (by assumption) (by rfl) ?ys6 ?rs6
      case ys6 => (intro w hTw; (try dsimp only at hTw); go_simp; try with_reducible rfl)
      try simp only [Act.put, List.setIfInBounds_toArray, List.set_cons_zero, List.set_cons_succ]
      refine OrdTo.takePure 7 (v := ?vs7) rfl (by kernel_rfl) (fun _ _ _ h => h) (fun _ => by assumption) (by assumption) (by rfl) ?ys7 ?rs7
      case ys7 => (intro w hTw; (try dsimp only at hTw); go_simp; try with_reducible rfl)
      try simp only [Act.put, List.setIfInBounds_toArray, List.set_cons_zero, List.set_cons_succ]
      refine OrdTo.take 8 (v := ?vs8) rfl (by kernel_rfl) (fun _ _ _ h => h) (by assumption) (by assumption) (by rfl) ?ys8 ?rs8
      case ys8 => (intro w hSw hTw; (try dsimp only at hSw hTw); go_split_ands; go_simp; try with_reducible rfl)
      try simp only [Act.put, List.setIfInBounds_toArray, List.set_cons_zero, List.set_cons_succ]
      refine OrdTo.takePure 9 (v := ?vs9) rfl (by kernel_rfl) (fun _ _ _ h => h) (fun _ => by assumption) (by assumption) (by rfl) ?ys9 ?rs9
      case ys9 => (intro w hTw; (try dsimp only at hTw); go_simp; try with_reducible rfl)
      try simp only [Act.put, List.setIfInBounds_toArray, List.set_cons_zero, List.set_cons_succ]
      refine OrdTo.takePure 10 (v := ?vs10) rfl (by kernel_rfl) (fun _ _ _ h => h) (fun _ => by assumption) (by assumption) (by rfl) ?ys10 ?rs10
      case ys10 => (intro w hTw; (try dsimp only at hTw); go_simp; try with_reducible rfl)
      try simp only [Act.put, List.setIfInBounds_toArray, List.set_cons_zero, List.set_cons_succ]
      refine OrdTo.takePure 11 (v := ?vs11) rfl (by kernel_rfl) (fun _ _ _ h => h) (fun _ => by assumption) (by assumption) (by rfl) ?ys11 ?rs11
      case ys11 => (intro w hTw; (try dsimp only at hTw); go_simp; try with_reducible rfl)
      try simp only [Act.put, List.setIfInBounds_toArray, List.set_cons_zero, List.set_cons_succ]
      refine OrdTo.takePure 12 (v := ?vs12) rfl (by kernel_rfl) (fun _ _ _ h => h) (fun _ => by assumption) (by assumption) (by rfl) ?ys12 ?rs12
      case ys12 => (intro w hTw; (try dsimp only at hTw); go_simp; try with_reducible rfl)
      try simp only [Act.put, List.setIfInBounds_toArray, List.set_cons_zero, List.set_cons_succ]
      refine OrdTo.takePure 13 (v := ?vs13) rfl (by kernel_rfl) (fun _ _ _ h => h) (fun _ => by assumption) (by assumption) (by rfl) ?ys13 ?rs13
      case ys13 => (intro w hTw; (try dsimp only at hTw); go_simp; try with_reducible rfl)
      try simp only [Act.put, List.setIfInBounds_toArray, List.set_cons_zero, List.set_cons_succ]
      refine OrdTo.takePure 14 (v := ?vs14) rfl (by kernel_rfl) (fun _ _ _ h => h) (fun _ => by assumption) (by assumption) (by rfl) ?ys14 ?rs14
      case ys14 => (intro w hTw; (try dsimp only at hTw); go_simp; try with_reducible rfl)
      try simp only [Act.put, List.setIfInBounds_toArray, List.set_cons_zero, List.set_cons_succ]
      refine OrdTo.take 15 (v := ?vs15) rfl (by kernel_rfl) (fun _ _ _ h => h) (by assumption) (by assumption) (by rfl) ?ys15 ?rs15
      case ys15 => (intro w hSw hTw; (try dsimp only at hSw hTw); go_split_ands; go_simp; try with_reducible rfl)
      try simp only [Act.put, List.setIfInBounds_toArray, List.set_cons_zero, List.set_cons_succ]
      refine OrdTo.takePure 16 (v := ?vs16) rfl (by kernel_rfl) (fun _ _ _ h => h) (fun _ => by assumption) (by assumption) (by rfl) ?ys16 ?rs16
      case ys16 => (intro w hTw; (try dsimp only at hTw); go_simp; try with_reducible rfl)
      try simp only [Act.put, List.setIfInBounds_toArray, List.set_cons_zero, List.set_cons_succ]
      refine OrdTo.takePure 17 (v := ?vs17) rfl (by kernel_rfl) (fun _ _ _ h => h) (fun _ => by assumption) (by assumption) (by rfl) ?ys17 ?rs17
      case ys17 => (intro w hTw; (try dsimp only at hTw); go_simp; try with_reducible rfl)
      try simp only [Act.put, List.setIfInBounds_toArray, List.set_cons_zero, List.set_cons_succ]
      refine OrdTo.takePure 18 (v := ?vs18) rfl (by kernel_rfl) (fun _ _ _ h => h) (fun _ => by assumption) (by assumption) (by rfl) ?ys18 ?rs18
      case ys18 => (intro w hTw; (try dsimp only at hTw); go_simp; try with_reducible rfl)
      try simp only [Act.put, List.setIfInBounds_toArray, List.set_cons_zero, List.set_cons_succ]
      refine OrdTo.takePure 19 (v := ?vs19) rfl (by kernel_rfl) (fun _ _ _ h => h) (fun _ => by assumption) (by assumption) (by rfl) ?ys19 ?rs19
      case ys19 => (intro w hTw; (try dsimp only at hTw); go_simp; try with_reducible rfl)
      try simp only [Act.put, List.setIfInBounds_toArray, List.set_cons_zero, List.set_cons_succ]
      refine OrdTo.take 20 (v := ?vs20) rfl (by kernel_rfl) (fun _ _ _ h => h) (by assumption) (by assumption) (by rfl) ?ys20 ?rs20
      case ys20 => (intro w hSw hTw; (try dsimp only at hSw hTw); go_split_ands; go_simp; try with_reducible rfl)
      try simp only [Act.put, List.setIfInBounds_toArray, List.set_cons_zero, List.set_cons_succ]
      refine OrdTo.takePure 21 (v := ?vs21) rfl (by kernel_rfl) (fun _ _ _ h => h) (fun _ => by assumption) (by assumption) (by rfl) ?ys21 ?rs21
      case ys21 => (intro w hTw; (try dsimp only at hTw); go_simp; try with_reducible rfl)
      try simp only [Act.put, List.setIfInBounds_toArray, List.set_cons_zero, List.set_cons_succ]
      refine OrdTo.takePure 22 (v := ?vs22) rfl (by kernel_rfl) (fun _ _ _ h => h) (fun _ => by assumption) (by assumption) (by rfl) ?ys22 ?rs22
      case ys22 => (intro w hTw; (try dsimp only at hTw); go_simp; try with_reducible rfl)
      try simp only [Act.put, List.setIfInBounds_toArray, List.set_cons_zero, List.set_cons_succ]
      refine OrdTo.takePure 23 (v := ?vs23) rfl (by kernel_rfl) (fun _ _ _ h => h) (fun _ => by assumption) (by assumption) (by rfl) ?ys23 ?rs23
      case ys23 => (intro w hTw; (try dsimp only at hTw); go_simp; try with_reducible rfl)
      try simp only [Act.put, List.setIfInBounds_toArray, List.set_cons_zero, List.set_cons_succ]
      refine OrdTo.take 24 (v := ?vs24) rfl (by kernel_rfl) (fun _ _ _ h => h) (by assumption) (by assumption) (by rfl) ?ys24 ?rs24
      case ys24 => (intro w hSw hTw; (try dsimp only at hSw hTw); go_split_ands; go_simp; try with_reducible rfl)
      try simp only [Act.put, List.setIfInBounds_toArray, List.set_cons_zero, List.set_cons_succ]
      refine OrdTo.takePure 25 (v := ?vs25) rfl (by kernel_rfl) (fun _ _ _ h => h) (fun _ => by assumption) (by assumption) (by rfl) ?ys25 ?rs25
      case ys25 => (intro w hTw; (try dsimp only at hTw); go_simp; try with_reducible rfl)
      try simp only [Act.put, List.setIfInBounds_toArray, List.set_cons_zero, List.set_cons_succ]
      refine OrdTo.takePure 26 (v := ?vs26) rfl (by kernel_rfl) (fun _ _ _ h => h) (fun _ => by assumption) (by assumption) (by rfl) ?ys26 ?rs26
      case ys26 => (intro w hTw; (try dsimp only at hTw); go_simp; try with_reducible rfl)
      try simp only [Act.put, List.setIfInBounds_toArray, List.set_cons_zero, List.set_cons_succ]
      refine OrdTo.take 27 (v := ?vs27) rfl (by kernel_rfl) (fun _ _ _ h => h) (by assumption) (by assumption) (by rfl) ?ys27 ?rs27
      case ys27 => (intro w hSw hTw; (try dsimp only at hSw hTw); go_split_ands; go_simp; try with_reducible rfl)
      try simp only [Act.put, List.setIfInBounds_toArray, List.set_cons_zero, List.set_cons_succ]
      refine OrdTo.takePure 28 (v := ?vs28) rfl (by kernel_rfl) (fun _ _ _ h => h) (fun _ => by assumption) (by assumption) (by rfl) ?ys28 ?rs28
      case ys28 => (intro w hTw; (try dsimp only at hTw); go_simp; try with_reducible rfl)
      try simp only [Act.put, List.setIfInBounds_toArray, List.set_cons_zero, List.set_cons_succ]
      refine OrdTo.step 29 rfl (by kernel_rfl) (by rfl) (fun K hK => ?_)
      go_simp
      refine hK _ _ (no_false (by kernel_rfl)) ?ts29 ?_
      case ts29 => (first | exact cell_far hT hgox _ | exact cell_far (cell_far hT hgox _) hgox _)
      clear hK K
      try simp only [Act.put, List.setIfInBounds_toArray, List.set_cons_zero, List.set_cons_succ]
      refine OrdTo.takePure 30 (v := ?vs30) rfl (by kernel_rfl) (fun _ _ _ h => h) (no_false (by kernel_rfl)) (by (first | exact cell_far hT hgox _ | exact cell_far (cell_far hT hgox _) hgox _)) (by rfl) ?ys30 ?rs30
      case ys30 => (intro w hTw; (try dsimp only at hTw); go_simp; try with_reducible rfl)
      try simp only [Act.put, List.setIfInBounds_toArray, List.set_cons_zero, List.set_cons_succ]
      refine OrdTo.step 31 rfl (by kernel_rfl) (by rfl) (fun K hK => ?_)
      go_simp
      refine hK _ _ (no_false (by kernel_rfl)) ?ts31 ?_
      case ts31 => (first | exact cell_far hT hgox _ | exact cell_far (cell_far hT hgox _) hgox _)
      clear hK K
      try simp only [Act.put, List.setIfInBounds_toArray, List.set_cons_zero, List.set_cons_succ]
      refine OrdTo.done (by kernel_rfl) ?_
      have HSb := Lib.hid (HSa.out.swapO n (n + k) hn (by omega))
      rw [E3.out, E4.out] at HSb
      have HFb : Hid (Fr (· < base) w _) := (HFa.out.setCell (p := ⟨go, n, none⟩) (fun _ => by simp; exact hgob) (.slice (some ⟨g4, 0, none⟩) N c4)).setCell (p := ⟨go, n + k, none⟩) (fun _ => by simp; exact hgob) (.slice (some ⟨g3, 0, none⟩) N c3)
      clear hS hT z1 HSa HFa z2
      generalize (W5.setCell ⟨go, n, none⟩ (.slice (some ⟨g4, 0, none⟩) N c4)).setCell ⟨go, n + k, none⟩ (.slice (some ⟨g3, 0, none⟩) N c3) = W6 at *
      go_wp2_with fail
      go_ret
      exact .inl ⟨n + k, by omega, by omega, Hp.out, rfl, HSb.out, HFb.out⟩
end Go.Proofs.Ytddmifbgbmjdaab
