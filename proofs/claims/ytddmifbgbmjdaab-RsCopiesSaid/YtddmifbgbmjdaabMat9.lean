/- The walk of mat.Inverse. -/
import Derived.Test.YtddmifbgbmjdaabMat7
import Derived.Test.YtddmifbgbmjdaabMat8
import Derived.Test.YtddmifbgbmjdaabClone
import Derived.Test.YtddmifbgbmjdaabOper
import Derived.Test.YtddmifbgbmjdaabMatMath2
set_option linter.unusedVariables false
set_option linter.unusedSimpArgs false
namespace Go.Proofs.Ytddmifbgbmjdaab
open Go.RowKit

theorem Fam.add {I : Type} [DecidableEq I] {w : World} {base : Nat} {S : I → Prop} {rv : I → Value} {L : I → List UInt8} (h : Fam w base S rv L) (i0 : I) (nv : Value) (l : List UInt8) (ho : OwnB w base 5 nv l)
    (hne : ∀ i, S i → ∀ b, (rv i).ownBlock = some b → nv.ownBlock ≠ some b) (T : I → Prop) (hT : ∀ i, T i → i = i0 ∨ S i) : Fam w base T (fun i => if i = i0 then nv else rv i) (fun i => if i = i0 then l else L i) := by
  refine ⟨fun i hi => ?_, fun i j hi hj hij b hb => ?_⟩
  · by_cases e : i = i0
    · simp only [e, if_true]; exact ho
    · simp only [e, if_false]; exact h.row i ((hT i hi).resolve_left e)
  · by_cases e : i = i0
    · by_cases e2 : j = i0
      · exact absurd (e.trans e2.symm) hij
      · rw [if_pos e] at hb
        rw [if_neg e2]
        exact fun h2 => hne j ((hT j hj).resolve_left e2) b h2 hb
    · rw [if_neg e] at hb
      by_cases e2 : j = i0
      · rw [if_pos e2]; exact hne i ((hT i hi).resolve_left e) b hb
      · rw [if_neg e2]; exact h.apart i j ((hT i hi).resolve_left e) ((hT j hj).resolve_left e2) hij b hb
theorem map_push (k : Nat) (rm : Nat → Value) (nv : Value) : (List.range k).map rm ++ [nv] = (List.range (k + 1)).map fun i => if i = k then nv else rm i := by
  rw [List.range_succ, List.map_append]
  congr 1
  · exact List.map_congr_left fun i hi => by have := List.mem_range.1 hi; rw [if_neg (by omega)]
  · simp
theorem ginv_ne {a : UInt8} (h : a ≠ 0) : ginv a ≠ 0 := fun e => by
  have := gmul_inv a h
  rw [e, gmul_zero] at this
  exact absurd this (by decide)
/-- What the solver holds while its matrix is being laid. -/
structure Lay (w w0 : World) (base s tg : Nat) (mv ov : Value) (k N : Nat) (rm ro : Nat → Value) (FA : Nat → Nat → UInt8) : Prop where
  blk : Bk w s 69 #[.pointer (some ⟨tg, 0, none⟩), mv, ov]
  tab : TabAt w tg
  tm : Own id w base 27 mv ((List.range k).map rm)
  to : Own id w base 27 ov ((List.range N).map ro)
  fam : Fam w base (fun i : Bool × Nat => if i.1 = true then i.2 < N else i.2 < k) (fun i => if i.1 = true then ro i.2 else rm i.2) (fun i => rowL N (if i.1 = true then oneF i.2 else FA i.2))
  ne : ∀ j, mv.ownBlock = some j → ov.ownBlock ≠ some j
  lo : base ≤ s ∧ base ≤ tg ∧ base = w0.heap.size
  below : Below w0.heap.size w0 w
theorem Lay.drew {w w0 : World} {base s tg : Nat} {mv ov : Value} {k N : Nat} {rm ro : Nat → Value} {FA : Nat → Nat → UInt8} (h : Lay w w0 base s tg mv ov k N rm ro FA) : Lay w.drew w0 base s tg mv ov k N rm ro FA :=
  have hb : Below w.heap.size w w.drew := (Below.refl _ _).drew
  ⟨h.blk, h.tab.below hb h.tab.lt, h.tm.keep (Fr.of_below hb _), h.to.keep (Fr.of_below hb _), h.fam.keep_below hb, h.ne, h.lo, h.below.drew⟩
theorem bk_bk {w : World} {g h : Nat} {t u : TypeId} {cs ds : Array Value} (a : Bk w g t cs) (b : Bk w h u ds) (hne : t ≠ u) : g ≠ h := by
  rintro rfl
  unfold Bk at a b
  rw [a] at b
  simp only [Option.some.injEq, Obj.cells.injEq] at b
  exact hne b.2.1
theorem Lay.step {W wc wd w0 : World} {base s tg : Nat} {mv ov nv mv1 : Value} {k N : Nat} {rm ro : Nat → Value} {FA : Nat → Nat → UInt8} (h : Lay W w0 base s tg mv ov k N rm ro FA)
    (hoc : OwnB wc W.heap.size 5 nv (rowL N (FA k))) (hbc : Below W.heap.size W wc) (hod : Own id wd base 27 mv1 ((List.range k).map rm ++ [nv]))
    (hfd : Fr (fun j => some j ≠ mv.ownBlock) (wc.alloc (.cells #[nv] 27)) wd) (had : mv1.ownBlock = mv.ownBlock ∨ mv1.ownBlock = some (wc.alloc (.cells #[nv] 27)).heap.size) :
    Lay (wd.setCell ⟨s, 1, none⟩ mv1) w0 base s tg mv1 ov (k + 1) N (fun i => if i = k then nv else rm i) ro FA := by
  have hbb : Below W.heap.size W (wc.alloc (.cells #[nv] 27)) := hbc.alloc hbc.size _
  have hWc := hbc.size
  have hmb := h.tm.keep (Fr.of_below hbb _)
  have hkb := h.blk.below hbb h.blk.lt
  have htb := h.tab.below hbb h.tab.lt
  have hkd := hkb.fr hfd (bk_apart hkb hmb (by decide))
  have htd := htb.fr hfd (tab_apart htb hmb (by decide))
  have hfe : Fr (fun j => j ≠ s) wd (wd.setCell ⟨s, 1, none⟩ mv1) := (Fr.refl _ _).setCell (fun _ => by simp) _
  have hno : ∀ j, nv.ownBlock = some j → some j ≠ mv.ownBlock := fun j hj e => by
    have := (hoc.base_le j hj).1
    have := (h.tm.base_le j e.symm).2
    omega
  have hod' := hod.keep (w' := wd.setCell ⟨s, 1, none⟩ mv1) (hfe.mono fun j _ hj e => bk_apart hkd hod (by decide) (by rw [← e]; exact hj.symm))
  have hov := ((h.to.keep (Fr.of_below hbb _)).keep (w' := wd) (hfd.mono fun j _ hj e => h.ne j e.symm hj))
  have hov' := hov.keep (w' := wd.setCell ⟨s, 1, none⟩ mv1) (hfe.mono fun j _ hj e => bk_apart hkd hov (by decide) (by rw [← e]; exact hj.symm))
  have hnd := ((hoc.keep (w' := wc.alloc (.cells #[nv] 27)) (Fr.of_below ((Below.refl _ _).alloc (Nat.le_refl _) _) _)).keep (w' := wd) (hfd.mono fun j _ hj => hno j hj))
  have hne := hnd.keep (w' := wd.setCell ⟨s, 1, none⟩ mv1) (hfe.mono fun j _ hj e => bk_apart hkd hnd (by decide) (by rw [← e]; exact hj.symm))
  have hfb := h.fam.keep_below hbb
  have hfm := hfb.keep (w' := wd) (hfd.mono fun j _ ⟨i, hi, hj⟩ e => own_apart hmb (hfb.row i hi) (by decide) j e.symm hj)
  have hfn := hfm.keep (w' := wd.setCell ⟨s, 1, none⟩ mv1) (hfe.mono fun j _ ⟨i, hi, hj⟩ e => bk_apart hkd (hfm.row i hi) (by decide) (by rw [← e]; exact hj.symm))
  refine ⟨by simpa using hkd.set_ 1 mv1, htd.fr hfe ?_, by rw [map_push] at hod'; exact hod', hov', ?_, ?_, h.lo, ?_⟩
  · obtain ⟨cs, hc, _⟩ := htd
    exact bk_bk hc hkd (by decide)
  · have := (hfn.add (false, k) nv (rowL N (FA k)) (Own.lower hne (by have := h.below.size; have := h.lo.2.2; omega)) (fun i hi b hb hb2 => by
      have := (h.fam.lt i hi b hb).2
      have := (hoc.base_le b hb2).1
      omega) (fun i : Bool × Nat => if i.1 = true then i.2 < N else i.2 < k + 1) (fun i hi => by
      obtain ⟨c, i⟩ := i
      cases c
      · simp at hi
        by_cases e : i = k
        · left; rw [e]
        · right; simp; omega
      · right; simpa using hi))
    refine this.conv (fun i _ => ?_) (fun i _ => ?_)
    · obtain ⟨c, i⟩ := i
      cases c <;> simp
    · obtain ⟨c, i⟩ := i
      cases c
      · by_cases e : i = k <;> simp [e]
      · simp
  · intro j hj
    rcases had with e | e
    · exact h.ne j (by rw [← e]; exact hj)
    · intro e2
      rw [e] at hj
      have h3 := (h.to.base_le j e2).2
      simp only [Option.some.injEq] at hj
      have := hbb.size
      omega
  · have hz : ∀ j, j < w0.heap.size → some j ≠ mv.ownBlock := fun j hj e => by
      have := (h.tm.base_le j e.symm).1
      have := h.lo.2.2
      omega
    refine Fr.after (Fr.after (h.below.trans (hbb.mono h.below.size)) hfd hz) hfe (fun j hj e => ?_)
    have := h.lo.1
    have := h.lo.2.2
    omega
set_option maxHeartbeats 4000000 in
theorem inverse_calls (v : Value) (N : Nat) (FA : Nat → Nat → UInt8) (P : Nat → Prop) (w : World) (hv : MatR P w v (tab N N FA)) (h1 : 1 ≤ N) (h2 : N ≤ 256) :
    Calls Try.prog 22 #[v] w fun e w' =>
      ((∃ x rv Fo, e = .returned (.tuple #[x, .bool true]) ∧ OwnMat w' w.heap.size x N rv (fun i => rowL N (Fo i)) ∧ (∀ i k, i < N → k < N → mulF N Fo FA i k = oneF i k) ∧ ∀ i k, i < N → k < N → mulF N FA Fo i k = oneF i k) ∨
       (e = .returned (.tuple #[.slice none 0 0, .bool false]) ∧ ∃ (x : Nat → UInt8) (c : Nat), c < N ∧ x c = 1 ∧ Ker N FA x)) ∧ Below w.heap.size w w' := by
  have HA : Hid (MatR (· < w.heap.size) w v (tab N N FA)) := hv.there.mono fun k hk => hk.2
  have SA : Hid (decide (Snd (tab N N FA)) = true) := decide_eq_true (snd_tab (by omega) (by omega))
  clear hv
  obtain ⟨AA, cpa, rfl, ha1, ha2⟩ := HA.out.form
  have ha0 : (0 : Int) < (N : Int) := by omega
  go_enter Try.func22, Try.ntmps22
  go_wp2_with fail
  refine (msound_calls _ _ _ _ HA.out).mono ?_
  rintro e w1 ⟨rfl, hb1⟩
  rw [SA.out]
  have HB1 := Lib.hid hb1
  obtain ⟨a0, rv0, rfl, hp0, hc0, hr0⟩ := (HA.out.fr (Fr.of_below hb1 (fun _ => True)) (fun _ _ => trivial)).row 0 (by omega)
  obtain ⟨A0, cp0, rfl, _, _⟩ := hr0
  rw [add_zero] at hc0
  rw [rowL_length] at *
  have hne : ((N : Int) != (N : Int)) = false := by simp
  clear hb1
  go_wp2_with fail
  refine (made_calls _).mono ?_
  rintro e w2 ⟨rfl, ht2, hb2⟩
  have HB2 : Hid (Below w.heap.size w w2) := HB1.out.trans (hb2.mono HB1.out.size)
  have HT2 := Lib.hid ht2
  have hs2 := ht2.lt
  have hs1 := HB1.out.size
  clear ht2 hb2 hc0
  go_wp2_with fail
  refine (one_calls N h1 h2 _).mono ?_
  rintro e w3 ⟨ov, ro, rfl, ho3, hb3⟩
  have HB3 : Hid (Below w.heap.size w w3) := HB2.out.trans (hb3.mono (by omega))
  have HT3 : Hid (TabAt w3 w1.heap.size) := HT2.out.below hb3 hs2
  obtain ⟨go, co, rfl, -⟩ := ho3.at_ 0 (by omega)
  have HO3 := Lib.hid ho3
  have hs3 := HB3.out.size
  clear ho3 hb3
  go_wp2_with fail
  have HL : Hid (Lay (w3.alloc (.cells #[.pointer (some ⟨w1.heap.size, 0, none⟩), .slice none 0 0, .slice (some ⟨go, 0, none⟩) N co] 69)) w w.heap.size w3.heap.size w1.heap.size (.slice none 0 0) (.slice (some ⟨go, 0, none⟩) N co) 0 N (fun _ => .slice none 0 0) ro FA) := by
    have hb4 : Below w3.heap.size w3 (w3.alloc (.cells #[.pointer (some ⟨w1.heap.size, 0, none⟩), .slice none 0 0, .slice (some ⟨go, 0, none⟩) N co] 69)) := (Below.refl _ _).alloc (Nat.le_refl _) _
    refine ⟨Bk.new w3 _ _, HT3.out.below hb4 HT3.out.lt, Own.none_ _ _ _ _, ((HO3.out.keep_below hb4).top).lower (by omega), ?_, fun j h => by simp [Value.ownBlock] at h, ⟨by omega, by omega, rfl⟩, HB3.out.alloc (by omega) _⟩
    refine ((((HO3.out.keep_below hb4).rows).lower (b := w.heap.size) (by omega)).pull (fun i : Bool × Nat => i.2) (fun i => if i.1 = true then i.2 < N else i.2 < 0) (fun i hi => ?_) (fun i j hi hj hne e => ?_)).conv (fun i hi => ?_) (fun i hi => ?_)
    · obtain ⟨b, i⟩ := i
      cases b <;> simp at hi
      exact hi
    · obtain ⟨b, i⟩ := i
      obtain ⟨d, j⟩ := j
      cases b <;> cases d <;> simp at hi hj hne e
      exact hne e
    · obtain ⟨b, i⟩ := i
      cases b <;> simp at hi
      rfl
    · obtain ⟨b, i⟩ := i
      cases b <;> simp at hi
      rfl
  clear HO3 HT3 HB3 HT2 HB2 HB1
  go_loopw [6, 28] (fun _ i wr => ∃ (k : Nat) (mv : Value) (rm : Nat → Value), k ≤ N ∧ i = .int .i64 k ∧ Hid (Lay wr w w.heap.size w3.heap.size w1.heap.size mv (.slice (some ⟨go, 0, none⟩) N co) k N rm ro FA)) (fun _ i _ => N - (intOf i).toNat)
  case atStart => exact ⟨0, _, _, Nat.zero_le _, rfl, HL⟩
  case round =>
    obtain ⟨k, mv, rm, hk, rfl, HL⟩ := hrel
    by_cases hlt : k < N
    · have hlt' : (k : Int) < (N : Int) := by omega
      obtain ⟨_, rvk, h, hpk, hck, hrk⟩ := (HA.out.fr (Fr.of_below HL.out.below (fun _ => True)) (fun _ _ => trivial)).row k hlt
      cases h
      have HRk := Lib.hid hrk
      obtain ⟨Ak, cpk, rfl, -, -⟩ := hrk
      rw [rowL_length] at *
      go_wp2_with fail
      have hS : (fun w' : World => w'.cell? ⟨w3.heap.size, 1, none⟩ = some mv) wr.drew := by have := HL.out.blk.cell 1; simpa using this
      have hT : (fun _ : World => True) wr.drew := trivial
      have HLd : Hid (Lay wr.drew w w.heap.size w3.heap.size w1.heap.size mv (.slice (some ⟨go, 0, none⟩) N co) k N rm ro FA) := HL.out.drew
      have HRd : Hid (Bytes (· < w.heap.size) wr.drew (.slice Ak N cpk) (rowL N (FA k))) := HRk.out.fr (Fr.of_below (Below.refl _ _).drew (fun _ => True)) (fun _ _ => trivial)
      refine OrdTo.begin_ (fun w' : World => w'.cell? ⟨w3.heap.size, 1, none⟩ = some mv) (fun _ : World => True) 11 (by kernel_rfl) ?_
      generalize wr.drew = W at *
      refine OrdTo.takePure 0 (v := ?vu0) rfl (by kernel_rfl) (fun _ _ _ h => h) (fun _ => by assumption) (by assumption) (by rfl) ?yu0 ?ru0
      case yu0 => (intro w hTw; (try dsimp only at hTw); go_simp; try with_reducible rfl)
      try simp only [Act.put, List.setIfInBounds_toArray, List.set_cons_zero, List.set_cons_succ]
      refine OrdTo.takePure 1 (v := ?vu1) rfl (by kernel_rfl) (fun _ _ _ h => h) (fun _ => by assumption) (by assumption) (by rfl) ?yu1 ?ru1
      case yu1 => (intro w hTw; (try dsimp only at hTw); go_simp; try with_reducible rfl)
      try simp only [Act.put, List.setIfInBounds_toArray, List.set_cons_zero, List.set_cons_succ]
      refine OrdTo.takePure 2 (v := ?vu2) rfl (by kernel_rfl) (fun _ _ _ h => h) (fun _ => by assumption) (by assumption) (by rfl) ?yu2 ?ru2
      case yu2 => (intro w hTw; (try dsimp only at hTw); go_simp; try with_reducible rfl)
      try simp only [Act.put, List.setIfInBounds_toArray, List.set_cons_zero, List.set_cons_succ]
      refine OrdTo.takePure 3 (v := ?vu3) rfl (by kernel_rfl) (fun _ _ _ h => h) (fun _ => by assumption) (by assumption) (by rfl) ?yu3 ?ru3
      case yu3 => (intro w hTw; (try dsimp only at hTw); go_simp; try with_reducible rfl)
      try simp only [Act.put, List.setIfInBounds_toArray, List.set_cons_zero, List.set_cons_succ]
      refine OrdTo.take 4 (v := ?vu4) rfl (by kernel_rfl) (fun _ _ _ h => h) (by assumption) (by assumption) (by rfl) ?yu4 ?ru4
      case yu4 => (intro w hSw hTw; (try dsimp only at hSw hTw); go_split_ands; go_simp; try with_reducible rfl)
      try simp only [Act.put, List.setIfInBounds_toArray, List.set_cons_zero, List.set_cons_succ]
      refine OrdTo.takePure 5 (v := ?vu5) rfl (by kernel_rfl) (fun _ _ _ h => h) (fun _ => by assumption) (by assumption) (by rfl) ?yu5 ?ru5
      case yu5 => (intro w hTw; (try dsimp only at hTw); go_simp; try with_reducible rfl)
      try simp only [Act.put, List.setIfInBounds_toArray, List.set_cons_zero, List.set_cons_succ]
      refine OrdTo.step 6 rfl (by kernel_rfl) (by rfl) (fun K hK => ?_)
      go_simp
      refine (cloneb_calls _ (rowL N (FA k)) (· < w.heap.size) _ HRd.out (by rw [rowL_length]; omega)).mono ?_
      rintro e wc ⟨nv, rfl, hoc, hbc⟩
      have Hoc := Lib.hid hoc
      have Hbc := Lib.hid hbc
      obtain ⟨An, nn, cn, rfl⟩ := hoc.shape
      have hSc : wc.cell? ⟨w3.heap.size, 1, none⟩ = some mv := by rw [hbc.cell (p := ⟨w3.heap.size, 1, none⟩) HLd.out.blk.lt]; exact hS
      refine hK _ _ (fun _ => hSc) trivial ?_
      clear hK K hoc hbc
      try simp only [Act.put, List.setIfInBounds_toArray, List.set_cons_zero, List.set_cons_succ]
      refine OrdTo.step 7 rfl (by kernel_rfl) (by rfl) (fun K hK => ?_)
      go_simp
      have hSb : (wc.alloc (.cells #[.slice An nn cn] 27)).cell? ⟨w3.heap.size, 1, none⟩ = some mv := by rw [((Below.refl wc.heap.size wc).alloc (Nat.le_refl _) _).cell (p := ⟨w3.heap.size, 1, none⟩) (World.block_lt_of_cell? wc _ hSc)]; exact hSc
      refine hK _ _ (fun _ => hSb) trivial ?_
      clear hK K
      try simp only [Act.put, List.setIfInBounds_toArray, List.set_cons_zero, List.set_cons_succ]
      refine OrdTo.step 8 rfl (by kernel_rfl) (by rfl) (fun K hK => ?_)
      have hbb : Below W.heap.size W (wc.alloc (.cells #[.slice An nn cn] 27)) := Hbc.out.alloc Hbc.out.size _
      refine oper_append_el (f := id) (R := fun j => wc.heap.size ≤ j) w.heap.size _ _ 22 27 (.slice none 0 0) 24 rfl Try.underlying22 info_row rfl (by omega) mv (.slice (some ⟨wc.heap.size, 0, none⟩) 1 1) ((List.range k).map rm) [.slice An nn cn] (fun x hx => by simp at hx; subst hx; rfl) rfl rfl (HLd.out.tm.keep (Fr.of_below hbb _)) (sl_lit id wc _ (0, 0) [.slice An nn cn] _ _ _ _ rfl rfl (by simp) (by simp)) (by have := HLd.out.below.size; have := hbb.size; omega) (by simp; omega) ?_
      intro mv1 wd hod hfd had
      obtain ⟨Am, nm, cm, rfl⟩ := hod.shape
      have hkb := HLd.out.blk.below hbb HLd.out.blk.lt
      have hkd := hkb.fr hfd (bk_apart hkb (HLd.out.tm.keep (Fr.of_below hbb _)) (by decide))
      have hSd : wd.cell? ⟨w3.heap.size, 1, none⟩ = some mv := by have := hkd.cell 1; simpa using this
      have hzd : wd.frozen? ⟨w3.heap.size, 1, none⟩ = false := hkd.frozen 1
      have HN : Hid (Lay (wd.setCell ⟨w3.heap.size, 1, none⟩ (.slice Am nm cm)) w w.heap.size w3.heap.size w1.heap.size (.slice Am nm cm) (.slice (some ⟨go, 0, none⟩) N co) (k + 1) N (fun i => if i = k then .slice An nn cn else rm i) ro FA) := Lay.step HLd.out Hoc.out Hbc.out hod hfd had
      refine hK _ _ (fun _ => hSd) trivial ?_
      clear hK K hbb hkb hkd hod hfd had hSb hSc hS
      have hS := hSd
      try simp only [Act.put, List.setIfInBounds_toArray, List.set_cons_zero, List.set_cons_succ]
      refine OrdTo.takePure 9 (v := ?vz9) rfl (by kernel_rfl) (fun _ _ _ h => h) (fun _ => by assumption) (by assumption) (by rfl) ?yz9 ?rz9
      case yz9 => (intro w hTw; (try dsimp only at hTw); go_simp; try with_reducible rfl)
      try simp only [Act.put, List.setIfInBounds_toArray, List.set_cons_zero, List.set_cons_succ]
      refine OrdTo.takePure 10 (v := ?vz10) rfl (by kernel_rfl) (fun _ _ _ h => h) (fun _ => by assumption) (by assumption) (by rfl) ?yz10 ?rz10
      case yz10 => (intro w hTw; (try dsimp only at hTw); go_simp; try with_reducible rfl)
      try simp only [Act.put, List.setIfInBounds_toArray, List.set_cons_zero, List.set_cons_succ]
      refine OrdTo.step 11 rfl (by kernel_rfl) (by rfl) (fun K hK => ?_)
      go_simp
      refine hK _ _ (no_false (by kernel_rfl)) trivial ?_
      clear hK K
      try simp only [Act.put, List.setIfInBounds_toArray, List.set_cons_zero, List.set_cons_succ]
      refine OrdTo.done (by kernel_rfl) ?_
      go_wp2_with fail
      go_roundw
      case rel => exact ⟨k + 1, _, _, by omega, by go_num, HN⟩
      case measure => simp [intOf]; omega
    · obtain rfl : k = N := by omega
      obtain ⟨gm, cm, e, -, -, -⟩ := HL.out.tm.form (by simp; omega)
      simp only [List.length_map, List.length_range] at e
      subst e
      have HS0 : Hid (Slv wr w.heap.size w3.heap.size w1.heap.size gm cm go co k rm ro FA oneF) := ⟨HL.out.blk, HL.out.tab, HL.out.tm, HL.out.to, HL.out.fam.sub (fun i hi => by obtain ⟨c, i⟩ := i; cases c <;> simpa using hi), fun e => HL.out.ne gm rfl (by rw [e]; rfl), ⟨HL.out.lo.1, HL.out.lo.2.1⟩⟩
      have HB0 : Hid (Below w.heap.size w wr) := HL.out.below
      clear HL
      go_wp2_with fail
      go_loopw [7, 46] (fun _ i wr => ∃ (n : Nat) (rm ro : Nat → Value) (Fm Fo : Nat → Nat → UInt8), n ≤ k ∧ i = .int .i64 n ∧ Hid (Slv wr w.heap.size w3.heap.size w1.heap.size gm cm go co k rm ro Fm Fo) ∧ Hid (Link k FA Fm Fo) ∧ Hid (Done k n Fm) ∧ Hid (Below w.heap.size w wr)) (fun _ i _ => k - (intOf i).toNat)
      case atStart => exact ⟨0, rm, ro, FA, oneF, Nat.zero_le _, rfl, HS0, Link.start k FA, fun i j _ hj => absurd hj (by omega), HB0⟩
      case round =>
        obtain ⟨n, rm, ro, Fm, Fo, hn, rfl, HS, HK, HD, HB⟩ := hrel
        clear HS0 HB0
        by_cases hlt : n < k
        · have hlt' : (n : Int) < (k : Int) := by omega
          go_wp2_with fail
          refine (pivot_calls _ _ _ _ _ _ _ _ _ _ _ _ _ HS.out (by omega) n hlt).mono ?_
          rintro e w4 (⟨p, hp1, hp2, hp3, rfl, hs4, hf4⟩ | ⟨hz, rfl, hf4⟩)
          · have HS4 := Lib.hid hs4
            have HB4 : Hid (Below w.heap.size w w4) := Fr.after HB.out hf4 (fun j hj => hj)
            have HD4 : Hid (Done k n (swapF n p Fm)) := HD.out.swap hp1 hp2
            have HK4 : Hid (Link k FA (swapF n p Fm) (swapF n p Fo)) := HK.out.swap n p hlt hp2
            have Hp : Hid (swapF n p Fm n n ≠ 0) := by unfold swapF; rw [if_pos rfl]; exact hp3
            clear hs4 hf4 hp3 HS HB HD HK
            go_wp2_with fail
            refine (column_calls _ _ _ _ _ _ _ _ _ _ _ _ _ HS4.out (by omega) n hlt).mono ?_
            rintro e w5 ⟨rfl, hs5, hf5⟩
            have HS5 := Lib.hid hs5
            have HB5 : Hid (Below w.heap.size w w5) := Fr.after HB4.out hf5 (fun j hj => hj)
            have HD5 := Lib.hid (HD4.out.step hlt Hp.out)
            have HK5 := Lib.hid ((HK4.out.scale n (ginv (swapF n p Fm n n)) hlt (ginv_ne Hp.out)).add n (fun i => scaleF n (ginv (swapF n p Fm n n)) (swapF n p Fm) i n) hlt)
            clear hs5 hf5
            go_wp2_with fail
            go_roundw
            case rel => exact ⟨n + 1, _, _, _, _, by omega, by go_num, HS5, HK5, HD5, HB5⟩
            case measure => simp [intOf]; omega
          · have HB4 : Hid (Below w.heap.size w w4) := Fr.after HB.out hf4 (fun j hj => hj)
            have HX : Hid (∃ (x : Nat → UInt8) (c : Nat), c < k ∧ x c = 1 ∧ Ker k FA x) := by
              obtain ⟨x, h1, h2⟩ := HK.out.stuck hlt HD.out hz
              exact ⟨x, n, hlt, h1, h2⟩
            clear hz hf4 HS HB HD HK
            go_wp2_with fail
            go_ret2
            exact ⟨.inr ⟨rfl, HX.out⟩, HB4.out⟩
        · obtain rfl : n = k := by omega
          have b2 := HS.out.blk.cell 2
          simp at b2
          have HI := Lib.hid (HK.out.finish HD.out)
          go_wp2_with fail
          go_ret2
          refine ⟨.inl ⟨_, ro, Fo, rfl, ⟨HS.out.to, (HS.out.fam.pull (fun i => (true, i)) (· < n) (fun i hi => hi) (fun i j _ _ hne e => hne (by simpa using e))).conv (fun i _ => by simp) (fun i _ => by simp)⟩, HI.out.1, HI.out.2⟩, HB.out⟩
set_option maxHeartbeats 2000000 in
theorem inverse_bad (v : Value) (M : List (List UInt8)) (P : Nat → Prop) (w : World) (hv : MatR P w v M) (hn : ¬ (Snd M ∧ M.length = (M.headD []).length)) :
    Calls Try.prog 22 #[v] w fun e w' => e = .returned (.tuple #[.slice none 0 0, .bool false]) ∧ Below w.heap.size w w' := by
  have HA := Lib.hid hv
  obtain ⟨AA, cpa, rfl, ha1, ha2⟩ := hv.shape
  clear hv
  by_cases h : Snd M
  · have H : Hid (decide (Snd M) = true) := decide_eq_true h
    have h0 := h.1
    have h2 : M.length ≠ (M.headD []).length := fun e => hn ⟨h, e⟩
    clear hn h
    have ha0 : (0 : Int) < (M.length : Int) := by omega
    go_enter Try.func22, Try.ntmps22
    go_wp2_with fail
    refine (msound_calls _ _ _ _ HA.out).mono ?_
    rintro e w1 ⟨rfl, hb1⟩
    rw [H.out]
    have HB1 := Lib.hid hb1
    clear hb1
    obtain ⟨am, A0, c0, rfl, hp, hcell⟩ := (HA.out.below HB1.out).first h0
    have hne : ((M.length : Int) != ((M.headD []).length : Int)) = true := by rw [bne_iff_ne]; omega
    generalize (M.headD []).length = n0 at *
    clear h2
    go_wp2_with fail
    go_ret2
    exact ⟨rfl, HB1.out⟩
  · have H : Hid (decide (Snd M) = false) := decide_eq_false h
    clear hn h
    go_enter Try.func22, Try.ntmps22
    go_wp2_with fail
    refine (msound_calls _ _ _ _ HA.out).mono ?_
    rintro e w1 ⟨rfl, hb1⟩
    rw [H.out]
    go_wp2_with fail
    go_ret2
    exact ⟨rfl, hb1⟩
end Go.Proofs.Ytddmifbgbmjdaab
