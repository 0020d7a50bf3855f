/- The walks of mat.Sound and what it calls. -/
import Derived.Test.YtddmifbgbmjdaabRows2
import Derived.Test.YtddmifbgbmjdaabGfTab
import Derived.Deep.RegionWith
import Derived.Deep.RegionHeld3
set_option linter.unusedVariables false
set_option linter.unusedSimpArgs false
namespace Go.Proofs.Ytddmifbgbmjdaab
open Go.RowKit

/-- The place of the first row of which it is so; -1: there is none. -/
def IxP (p : List UInt8 → Bool) (M : List (List UInt8)) (i : Int) : Prop :=
  (i = -1 ∧ ∀ k (h : k < M.length), p M[k] = false) ∨ ∃ k, ∃ h : k < M.length, i = (k : Int) ∧ p M[k] = true ∧ ∀ j (hj : j < k), p (M[j]'(by omega)) = false

set_option maxHeartbeats 1000000 in
theorem idxf_calls (gf : Nat) (eg : ∀ args w, (callFunc gf args).run Try.prog w = .ok (.enter gf args) w) (cap v : Value) (M : List (List UInt8)) (p : List UInt8 → Bool) (P : Nat → Prop) (w : World) (hv : MatR P w v M)
    (hcall : ∀ k (h : k < M.length) rv, Bytes P w rv M[k] → Calls Try.prog gf #[rv, cap] w fun e w' => e = .returned (.bool (p M[k])) ∧ w = w') :
    Calls Try.prog 59 #[v, .func (.func gf) #[] #[cap]] w fun e w' => (∃ i, e = .returned (.int .i64 i) ∧ Hid (IxP p M i)) ∧ w = w' := by
  have Hv := Lib.hid hv
  have Hc := Lib.hid hcall
  obtain ⟨A, c, rfl, hl, hm⟩ := hv.shape
  clear hv hcall
  go_enter Try.func59, Try.ntmps59
  go_wp2_with fail
  go_loop [5, 8] (fun _ i => ∃ k : Nat, k ≤ M.length ∧ i = .int .i64 k ∧ Hid (∀ j (h : j < M.length), j < k → p M[j] = false)) (fun _ i => M.length - (intOf i).toNat)
  case atStart => exact ⟨0, Nat.zero_le _, rfl, fun j _ hj => absurd hj (by omega)⟩
  case round =>
    obtain ⟨k, hk, rfl, hs⟩ := hrel
    by_cases hlt : k < M.length
    · obtain ⟨ad, rv, rfl, hp, hcell, hb⟩ := Hv.out.at_ k hlt
      have hcl := Lib.hid (Hc.out k hlt rv hb)
      have hsh := hb
      obtain ⟨A2, c2, rfl, -, -⟩ := hsh
      clear hb
      have Hq : Hid (p M[k] = true ∨ p M[k] = false) := by cases p M[k] <;> simp [Hid]
      generalize hpk : p M[k] = q at *
      have Hpk := Lib.hid hpk
      clear hpk
      cases q
      · go_wp2_with fail
        refine hcl.out.mono ?_
        rintro e w' ⟨rfl, rfl⟩
        go_wp2_with fail
        go_round
        case rel =>
          refine ⟨k + 1, by omega, by go_num, fun j h hj => ?_⟩
          by_cases e : j = k
          · subst e; exact Hpk.out
          · exact hs.out j h (by omega)
        case measure => simp [intOf]; omega
      · go_wp2_with fail
        refine hcl.out.mono ?_
        rintro e w' ⟨rfl, rfl⟩
        go_wp2_with fail
        go_ret
        exact ⟨⟨_, rfl, .inr ⟨k, hlt, rfl, Hpk.out, fun j hj => hs.out j (by omega) hj⟩⟩, rfl⟩
    · obtain rfl : k = M.length := by omega
      go_wp2_with fail
      go_ret
      exact ⟨⟨_, rfl, .inl ⟨rfl, fun j h => hs.out j h h⟩⟩, rfl⟩

def anyB (p : List UInt8 → Bool) (M : List (List UInt8)) : Bool := M.any p
theorem IxP.any {p : List UInt8 → Bool} {M : List (List UInt8)} {i : Int} (h : IxP p M i) : decide (0 ≤ i) = anyB p M := by
  unfold anyB
  rcases h with ⟨rfl, h⟩ | ⟨k, hk, rfl, h, _⟩
  · rw [decide_eq_false (by omega)]
    symm
    rw [List.any_eq_false]
    intro x hx
    obtain ⟨j, hj, rfl⟩ := List.getElem_of_mem hx
    simp [h j hj]
  · rw [decide_eq_true (by omega)]
    symm
    rw [List.any_eq_true]
    exact ⟨M[k], List.getElem_mem hk, h⟩
set_option maxHeartbeats 1000000 in
theorem contf_calls (gf : Nat) (eg : ∀ args w, (callFunc gf args).run Try.prog w = .ok (.enter gf args) w) (cap v : Value) (M : List (List UInt8)) (p : List UInt8 → Bool) (P : Nat → Prop) (w : World) (hv : MatR P w v M)
    (hcall : ∀ k (h : k < M.length) rv, Bytes P w rv M[k] → Calls Try.prog gf #[rv, cap] w fun e w' => e = .returned (.bool (p M[k])) ∧ w = w') :
    Calls Try.prog 44 #[v, .func (.func gf) #[] #[cap]] w fun e w' => e = .returned (.bool (anyB p M)) ∧ w = w' := by
  have Hv := Lib.hid hv
  have Hc := Lib.hid hcall
  obtain ⟨A, c, rfl, hl, hm⟩ := hv.shape
  clear hv hcall
  go_enter Try.func44, Try.ntmps44
  go_wp2_with fail
  refine (idxf_calls gf eg cap _ M p P _ Hv.out Hc.out).mono ?_
  rintro e w' ⟨⟨i, rfl, hi⟩, rfl⟩
  go_wp2_with fail
  go_ret
  exact ⟨by rw [← hi.out.any]; rfl, rfl⟩

/-! ### Sound -/
theorem sound1_calls (g : Nat) (am : Addr) (N C : Nat) (A A0 : Option Addr) (n c n0 c0 : Nat) (w : World) (hbox : w.cell? ⟨g, 0, none⟩ = some (.slice (some am) N C)) (hN : 0 < N) (h0 : w.cell? am = some (.slice A0 n0 c0)) :
    Calls Try.prog 45 #[.slice A n c, .pointer (some ⟨g, 0, none⟩)] w fun e w' => e = .returned (.bool ((n : Int) != (n0 : Int))) ∧ w = w' := by
  have hN' : (0 : Int) < (N : Int) := by omega
  go_enter Try.func45, Try.ntmps45
  go_wp2_with fail
  go_ret
  exact ⟨rfl, rfl⟩
theorem enters_fn {P : Program} {f : FuncId} {fn : Func} {c : Code} (hf : P.funcs[f]? = some fn) (hname : (fn.name == "runtime.NumGoroutine") = false) (hb : fn.body = some c) (args : Array Value) (w : World) : (callFunc f args).run P w = .ok (.enter f args) w := by
  have h1 : fn.name ≠ "runtime.NumGoroutine" := by simpa using hname
  simp [callFunc, hf, h1, hb, mark]
theorem MatR.first {P : Nat → Prop} {w : World} {A : Option Addr} {n c : Nat} {M : List (List UInt8)} (h : MatR P w (.slice A n c) M) (h0 : 0 < M.length) : ∃ am A0 c0, A = some am ∧ P am.block ∧ w.cell? am = some (.slice A0 (M.headD []).length c0) := by
  obtain ⟨ad, rv, rfl, hp, hcell, hb⟩ := h.at_ 0 h0
  obtain ⟨A0, c0, rfl, _, _⟩ := hb
  rw [add_zero] at hcell
  refine ⟨ad, A0, c0, rfl, hp, ?_⟩
  rw [hcell]
  cases M with
  | nil => simp at h0
  | cons a M => rfl
theorem any_snd {M : List (List UInt8)} (h1 : 0 < M.length) (h2 : 0 < (M.headD []).length) : (!anyB (fun r => (r.length : Int) != ((M.headD []).length : Int)) M) = decide (Snd M) := by
  unfold anyB
  by_cases h : Rect M (M.headD []).length
  · rw [decide_eq_true ⟨h1, h2, h⟩]
    have : M.any (fun r => (r.length : Int) != ((M.headD []).length : Int)) = false := by
      rw [List.any_eq_false]
      intro x hx
      simp [h x hx]
    rw [this]; rfl
  · rw [decide_eq_false (fun hh => h hh.2.2)]
    have : M.any (fun r => (r.length : Int) != ((M.headD []).length : Int)) = true := by
      rw [List.any_eq_true]
      apply Classical.byContradiction
      intro hn
      refine h fun x hx => ?_
      apply Classical.byContradiction
      intro hne
      exact hn ⟨x, hx, by rw [bne_iff_ne]; omega⟩
    rw [this]; rfl
set_option maxHeartbeats 1000000 in
theorem msound_calls (v : Value) (M : List (List UInt8)) (P : Nat → Prop) (w : World) (hv : MatR P w v M) :
    Calls Try.prog 19 #[v] w fun e w' => e = .returned (.bool (decide (Snd M))) ∧ Below w.heap.size w w' := by
  have Hv := Lib.hid hv
  obtain ⟨A, c, rfl, hl, hm⟩ := hv.shape
  clear hv
  have hmf : ∀ (fn : Fn) (first cap : Array Value) (w : World), (Instr.makeFunc fn first cap).run Try.prog w = .ok (.func fn first cap) w := fun _ _ _ _ => rfl
  by_cases h0 : M.length = 0
  · have Hr : Hid (decide (Snd M) = false) := decide_eq_false (fun h => by have := h.1; omega)
    have e0 : ((M.length : Int) == 0) = true := by rw [h0]; rfl
    clear h0
    go_enter Try.func19, Try.ntmps19
    go_wp2_with fail
    go_ret
    exact ⟨by rw [Hr.out]; rfl, (Below.refl _ _).alloc (Nat.le_refl _) _⟩
  · have e0 : ((M.length : Int) == 0) = false := by rw [beq_eq_false_iff_ne]; omega
    have hpos : 0 < (M.length : Int) := by omega
    obtain ⟨am, A0, c0, rfl, hp, hcell⟩ := Hv.out.first (by omega)
    have hcell2 := ((Below.refl w.heap.size w).alloc (Nat.le_refl _) (.cells #[.slice (some am) M.length c] 22)).cell (World.block_lt_of_cell? w _ hcell)
    rw [hcell] at hcell2
    have HrN : Hid ((M.headD []).length = 0 → decide (Snd M) = false) := fun e => decide_eq_false (fun h => by have := h.2.1; omega)
    have HrY : Hid (0 < (M.headD []).length → (!anyB (fun r => (r.length : Int) != ((M.headD []).length : Int)) M) = decide (Snd M)) := fun e => any_snd (M := M) (by omega) e
    generalize (M.headD []).length = n0 at *
    by_cases h1 : n0 = 0
    · have Hr : Hid (decide (Snd M) = false) := HrN.out h1
      have e1 : ((n0 : Int) == 0) = true := by rw [h1]; rfl
      clear h0 h1
      go_enter Try.func19, Try.ntmps19
      go_wp2_with fail
      go_ret
      exact ⟨by rw [Hr.out]; rfl, (Below.refl _ _).alloc (Nat.le_refl _) _⟩
    · have e1 : ((n0 : Int) == 0) = false := by rw [beq_eq_false_iff_ne]; omega
      have Hr := Lib.hid (HrY.out (by omega))
      have HM : Hid (MatR P (w.alloc (.cells #[.slice (some am) M.length c] 22)) (.slice (some am) M.length c) M) := Hv.out.below ((Below.refl _ _).alloc (Nat.le_refl _) _)
      have Hc2 := Lib.hid hcell2
      have hbox : Hid ((w.alloc (.cells #[.slice (some am) M.length c] 22)).cell? ⟨w.heap.size, 0, none⟩ = some (.slice (some am) M.length c)) := (Bk.new w 22 _).cell 0
      have hpos2 : 0 < M.length := by omega
      clear h0 h1
      go_enter Try.func19, Try.ntmps19
      go_wp2_with fail
      refine (contf_calls 45 (enters_fn Try.func45 (by kernel_rfl) rfl) _ _ M (fun r => (r.length : Int) != (n0 : Int)) P _ HM.out ?_).mono ?_
      · intro k hk rv hb
        obtain ⟨A3, c3, rfl, _, _⟩ := hb
        exact sound1_calls w.heap.size am M.length c A3 A0 M[k].length c3 n0 c0 _ hbox.out hpos2 Hc2.out
      · rintro e w' ⟨rfl, rfl⟩
        go_wp2_with fail
        go_ret
        exact ⟨by rw [← Hr.out]; rfl, (Below.refl _ _).alloc (Nat.le_refl _) _⟩
end Go.Proofs.Ytddmifbgbmjdaab
