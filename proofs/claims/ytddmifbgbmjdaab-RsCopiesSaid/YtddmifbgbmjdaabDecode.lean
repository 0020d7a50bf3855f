/- Decode, of a list all of which counts. -/
import Derived.Test.YtddmifbgbmjdaabChosen
import Derived.Deep.Cut
set_option linter.unusedVariables false
set_option linter.unusedSimpArgs false
namespace Go.Proofs.Ytddmifbgbmjdaab
open Go.RowKit

theorem rows_at2 {w : World} {base n c m : Nat} {A : Option Addr} {rv : Nat → Value} {L : Nat → List UInt8} (h : OwnMat w base (.slice A m c) n rv L) (k : Nat) (hk : k < n) : ∃ ad, A = some ad ∧ w.cell? (ad.add k) = some (rv k) := by
  obtain ⟨A', c', e, hl, hr⟩ := h.top.reads
  simp only [Value.slice.injEq] at e
  obtain ⟨rfl, -, -⟩ := e
  obtain ⟨ad, e, hp, hc⟩ := Rd.at2 hr k (by simpa using hk)
  exact ⟨ad, e, by simpa using hc⟩
/-- .. and where it lies afterwards. -/
theorem wpList_append_ref2 {ops : Array Oper} {rest : List Oper} {o : Oper} {a : Act} {Q : Exit → Act → World → Prop} {w : World} (base : Nat) (s x : Operand)
    (ho : o.op = .call { callee := .builtin .append, args := #[s, x], argTypes := #[22, 22] }) (v : Value) (A : Option Addr) (n c : Nat) (l : List Value) (HO : Own id w base 27 v l)
    (g : Nat) (hg : g = w.heap.size) (hs : a.eval s = v) (hx : a.eval x = .slice (some ⟨g, 0, none⟩) 1 1) (hbase : base ≤ w.heap.size) (hl : l.length ≤ 1000000) (hgo : Region.wanted o (yielded ops a.tmps) = true)
    (h : ∀ v1 w1, Own id w1 base 27 v1 (l ++ [.slice A n c]) → Fr (fun j => some j ≠ v.ownBlock) w w1 → (v1.ownBlock = v.ownBlock ∨ v1.ownBlock = some (w.heap.size + 1)) → wpList Try.prog ops Q rest (a.put o.dst v1) w1) :
    wpList Try.prog ops Q (o :: rest) a (w.alloc (.cells #[.slice A n c] 27)) := by
  subst hg
  refine wpList_step fun K hK => ?_
  rw [if_pos hgo]
  have hb : Below w.heap.size w (w.alloc (.cells #[.slice A n c] 27)) := (Below.refl _ _).alloc (Nat.le_refl _) _
  have HOb := HO.keep (w' := w.alloc (.cells #[.slice A n c] 27)) (Fr.of_below hb _)
  refine oper_append_el (f := id) (R := fun j => w.heap.size ≤ j) base s x 22 27 (.slice none 0 0) 24 ho Try.underlying22 info_row rfl (by omega) v (.slice (some ⟨w.heap.size, 0, none⟩) 1 1) l [.slice A n c] (fun x hx => by simp at hx; subst hx; rfl) hs hx HOb (sl_lit id w _ (0, 0) [.slice A n c] _ _ _ _ rfl rfl (by simp) (by simp)) (by have := hb.size; omega) (by simp; omega) ?_
  intro v1 w1 ho1 hf1 had
  refine hK _ _ (h v1 w1 ho1 (Fr.trans (Fr.of_below hb _) hf1) ?_)
  simpa using had
def Apart (v u : Value) : Prop := ∀ b, v.ownBlock = some b → u.ownBlock ≠ some b
theorem Apart.symm {v u : Value} (h : Apart v u) : Apart u v := fun b h1 h2 => h b h2 h1
theorem Apart.grow {w : World} {base : Nat} {e : TypeId} {v v1 u : Value} {l : List Value} (h : Apart v u) (hu : Own id w base e u l) (h1 : v1.ownBlock = v.ownBlock ∨ v1.ownBlock = some (w.heap.size + 1)) : Apart v1 u := fun b e1 e2 => by
  rcases h1 with h1 | h1
  · exact h b (h1 ▸ e1) e2
  · have := (hu.base_le b e2).2
    rw [h1] at e1
    simp at e1
    omega
theorem Own.after {w w1 : World} {base : Nat} {e : TypeId} {v u : Value} {l : List Value} (h : Apart v u) (hu : Own id w base e u l) (hf : Fr (fun j => some j ≠ v.ownBlock) w w1) : Own id w1 base e u l :=
  hu.keep (hf.mono fun k _ hk e => h k e.symm hk)

/-! ### the plain law -/
/-- Two sets of shards that agree at k unlike places are one. -/
theorem at_unique {k : Nat} (hk : k ≤ 255) (p : Nat → Nat) (hp : ∀ i, i < k → p i < 256) (hinj : ∀ i j, i < k → j < k → p i = p j → i = j) (u v : Nat → UInt8) (h : ∀ i, i < k → atF k u (UInt8.ofNat (p i)) = atF k v (UInt8.ofNat (p i))) (j : Nat) (hj : j < k) : u j = v j := by
  have hpl : PolyLt k (fun x => atF k u x ^^^ atF k v x) := (atF_poly k u).add (atF_poly k v)
  have h0 := hpl.zero_of _ (nodup_points k p hp hinj) (by simp) (fun q hq => by
    obtain ⟨i, hi, rfl⟩ := List.mem_map.1 hq
    show _ ^^^ _ = _
    rw [h i (List.mem_range.1 hi), UInt8.xor_self]) (UInt8.ofNat j)
  have := xor_eq_zero8 h0
  rwa [atF_at k u j hj (by omega), atF_at k v j hj (by omega)] at this
theorem take_push {α β : Type} (l : List α) (f : α → β) (j : Nat) (h : j < l.length) : (l.take (j + 1)).map f = (l.take j).map f ++ [f l[j]] := by
  rw [List.take_succ_eq_append_getElem h, List.map_append]
  rfl
set_option maxHeartbeats 8000000 in
theorem decode_calls (k m len : Nat) (v : Value) (fr : List (Int × Value)) (p : Nat → Nat) (D : Nat → Nat → UInt8) (P Q : Nat → Prop) (w : World) (hv : FragR P w v fr) (h1 : 1 ≤ k) (h2 : k + m ≤ 255) (h3 : len ≤ 1000) (hlk : fr.length = k)
    (hpos : ∀ i (h : i < fr.length), fr[i].1 = (p i : Int)) (hp : ∀ i, i < k → p i < k + m) (hinj : ∀ i j, i < k → j < k → p i = p j → i = j) (hd : ∀ i (h : i < fr.length), Bytes Q w fr[i].2 (rowL len (D i))) :
    Calls Try.prog 37 #[.int .i64 (k : Int), .int .i64 (m : Int), v] w fun e w' => ∃ (x : Value) (rv : Nat → Value) (S : Nat → Nat → UInt8), e = .returned (.tuple #[x, .int .i64 0]) ∧ OwnMat w' w.heap.size x k rv (fun i => rowL len (S i)) ∧ (∀ i, i < k → ∀ b, atF k (fun j => S j b) (UInt8.ofNat (p i)) = D i b) ∧ Below w.heap.size w w' := by
  have hg : AllGood k m len fr := ⟨hlk, fun i h => by rw [hpos i h]; have := hp i (by omega); omega, fun i j hi hj e => hinj i j (by omega) (by omega) (by rw [hpos i hi, hpos j hj] at e; omega), fun i h => by
    obtain ⟨A, c, e, _⟩ := hd i h
    rw [rowL_length] at e
    exact ⟨A, c, e⟩⟩
  have Hg := Lib.hid hg
  have HF : Hid (FragR (· < w.heap.size) w v fr) := hv.there.mono fun j hj => hj.2
  have HD : Hid (∀ i (h : i < fr.length), Bytes (· < w.heap.size) w fr[i].2 (rowL len (D i))) := fun i h => (hd i h).there.mono fun j hj => hj.2
  have Hpos := Lib.hid hpos
  have Hp := Lib.hid hp
  have Hinj := Lib.hid hinj
  obtain ⟨A, c, rfl, -, -⟩ := hv.shape
  clear hv hd hpos hp hinj hg
  rw [hlk] at HF ⊢
  have Hlk := Lib.hid hlk
  clear hlk
  go_enter Try.func37, Try.ntmps37
  go_wp2_with fail
  refine (code_calls k m h1 h2 _).mono ?_
  rintro e w1 ⟨vc, rvc, C, rfl, hC, ho, hb1⟩
  have HC := Lib.hid hC
  have HM1 := Lib.hid ho
  have HB1 := Lib.hid hb1
  obtain ⟨Ac, cc, rfl⟩ := ho.shape
  clear hC ho hb1
  go_wp2_with fail
  refine (chosen_calls k m len _ fr _ _ (HF.out.fr_ (Fr.of_below HB1.out (fun _ => True)) (fun _ _ => trivial)) Hg.out (by omega)).mono ?_
  rintro e w2 ⟨vs, rfl, hs, hb2⟩
  have HS2 : Hid (FragR (· < w2.heap.size) w2 vs fr) := hs.there.mono fun j hj => hj.2
  have HB2 : Hid (Below w.heap.size w w2) := HB1.out.trans (hb2.mono HB1.out.size)
  have HM2 := Lib.hid (HM1.out.keep_below hb2)
  obtain ⟨As, cs, rfl, -, -⟩ := hs.shape
  rw [Hlk.out] at HS2 ⊢
  clear hb2 HM1 HB1 hs
  go_wp2_with fail
  have HO0 : Hid (Own id w2 w2.heap.size 27 (.slice none 0 0) ((fr.take 0).map fun q => rvc q.1.toNat)) := Own.none_ _ _ _ _
  have HE0 : Hid (Own id w2 w2.heap.size 27 (.slice none 0 0) ((fr.take 0).map Prod.snd)) := Own.none_ _ _ _ _
  have HA0 : Hid (Apart (.slice none 0 0) (.slice none 0 0)) := Lib.hid (fun b hb => by simp [Value.ownBlock] at hb)
  go_loopw [11, 12, 14, 42] (fun rv dv _ i wr => ∃ j : Nat, j ≤ k ∧ i = .int .i64 j ∧ Hid (Own id wr w2.heap.size 27 rv ((fr.take j).map fun q => rvc q.1.toNat)) ∧ Hid (Own id wr w2.heap.size 27 dv ((fr.take j).map Prod.snd)) ∧ Hid (Apart rv dv) ∧ Hid (Below w2.heap.size w2 wr)) (fun _ _ _ i _ => k - (intOf i).toNat)
  case atStart => exact ⟨0, Nat.zero_le _, rfl, HO0, HE0, HA0, Below.refl _ _⟩
  case round =>
    obtain ⟨j, hj, rfl, HO, HE, HA, HB⟩ := hrel
    clear HO0 HE0 HA0
    obtain ⟨Ao, co, rfl⟩ : ∃ A c, u11 = .slice A j c := by
      obtain ⟨A, c, e, _⟩ := HO.out.reads
      exact ⟨A, c, by rw [e, List.length_map, List.length_take, Hlk.out, Nat.min_eq_left hj]⟩
    obtain ⟨Ae, ce, rfl⟩ : ∃ A c, u12 = .slice A j c := by
      obtain ⟨A, c, e, _⟩ := HE.out.reads
      exact ⟨A, c, by rw [e, List.length_map, List.length_take, Hlk.out, Nat.min_eq_left hj]⟩
    have hsz := HB.out.size
    by_cases hlt : j < k
    · have hj' : j < fr.length := by have := Hlk.out; omega
      have hltk : (j : Int) < (k : Int) := by omega
      obtain ⟨ad, rfl, hpp, hc1, hc2, hc3⟩ := (HS2.out.below HB.out).at_ j hj'
      obtain ⟨A2, c2, he⟩ := Hg.out.row j hj'
      have hq := Hp.out j hlt
      have heq := Hpos.out j hj'
      obtain ⟨ac, rfl, hck⟩ := rows_at2 HM2.out (p j) hq
      obtain ⟨A3, n3, c3, he3⟩ := (HM2.out.rows.row (p j) hq).shape
      have hck2 : wr.cell? (ac.add (p j)) = some (.slice A3 n3 c3) := by
        rw [he3] at hck
        rw [HB.out.cell (World.block_lt_of_cell? _ _ hck)]; exact hck
      have HtO : Hid ((fr.take (j + 1)).map (fun q => rvc q.1.toNat) = (fr.take j).map (fun q => rvc q.1.toNat) ++ [.slice A3 n3 c3]) := Lib.hid (by
        rw [take_push _ _ _ hj', heq, Int.toNat_natCast, he3])
      have HtE : Hid ((fr.take (j + 1)).map Prod.snd = (fr.take j).map Prod.snd ++ [.slice A2 len c2]) := Lib.hid (by
        rw [take_push _ _ _ hj', he])
      rw [he] at hc2 hc3
      rw [heq] at hc1
      clear he heq he3 hck
      generalize p j = q at *
      have hql : (q : Int) < ((k : Int) + m) := by omega
      have hbn : Below wr.heap.size wr (wr.alloc (.cells #[.int .i64 (q : Int), .slice A2 len c2] 51)) := (Below.refl _ _).alloc (Nat.le_refl _) _
      have hf0 : (wr.alloc (.cells #[.int .i64 (q : Int), .slice A2 len c2] 51)).cell? ⟨wr.heap.size, 0, none⟩ = some (.int .i64 (q : Int)) := (Bk.new wr 51 _).cell 0
      have hf1 : (wr.alloc (.cells #[.int .i64 (q : Int), .slice A2 len c2] 51)).cell? ⟨wr.heap.size, 1, none⟩ = some (.slice A2 len c2) := (Bk.new wr 51 _).cell 1
      have hck3 : (wr.alloc (.cells #[.int .i64 (q : Int), .slice A2 len c2] 51)).cell? (ac.add q) = some (.slice A3 n3 c3) := by
        rw [hbn.cell (World.block_lt_of_cell? _ _ hck2)]; exact hck2
      have hsW : (wr.alloc (.cells #[.int .i64 (q : Int), .slice A2 len c2] 51)).heap.size = wr.heap.size + 1 := by simp
      have HOn := Lib.hid (HO.out.keep (Fr.of_below hbn _))
      have HEn := Lib.hid (HE.out.keep (Fr.of_below hbn _))
      have HBn : Hid (Below w2.heap.size w2 (wr.alloc (.cells #[.int .i64 (q : Int), .slice A2 len c2] 51))) := HB.out.trans (hbn.mono hsz)
      have htl : Hid ((fr.take j).length = j) := Lib.hid (by rw [List.length_take, Hlk.out, Nat.min_eq_left hj])
      have HgO : Hid (∀ e : some wr.heap.size = (Value.slice Ao j co).ownBlock, False) := Lib.hid (fun e => by have := (HO.out.base_le _ e.symm).2; omega)
      clear hbn hck2
      go_upto_region 11 with (refine wpList_load_frag rfl _ rfl (ad.add (j * 2)) rfl q (.slice A2 len c2) hc1 hc3 ?_)
      clear HO HE HB hc1 hc2 hc3
      generalize (wr.alloc (.cells #[.int .i64 (q : Int), .slice A2 len c2] 51)) = W at *
      go_wp2_with (first
        | (at_builtin; refine wpList_append_ref2 w2.heap.size _ _ rfl (.slice Ao j co) A3 n3 c3 _ HOn.out _ hsW.symm rfl rfl (by omega) (by rw [List.length_map, htl.out]; omega) rfl ?_; intro v1 w3 ho3 hf3 had3; have hg1 : w3.cell? ⟨wr.heap.size, 1, none⟩ = some (.slice A2 len c2) := hf3.cell (fun e => HgO.out e) hf1)
        | (at_builtin; refine wpList_append_ref2 w2.heap.size _ _ rfl (.slice Ae j ce) A2 len c2 _ (Own.after HA.out HEn.out hf3) _ ?c6 rfl rfl ?c3 ?c4 rfl ?_))
      case c6 => rfl
      case c3 => have := hf3.size; omega
      case c4 => rw [List.length_map, htl.out]; omega
      intro v2 w4 ho4 hf4 had4
      have HA1 := HA.out.grow HEn.out had3
      have HO4 : Hid (Own id w4 w2.heap.size 27 v1 ((fr.take (j + 1)).map fun q => rvc q.1.toNat)) := Lib.hid (by rw [HtO.out]; exact Own.after HA1.symm ho3 hf4)
      have HE4 : Hid (Own id w4 w2.heap.size 27 v2 ((fr.take (j + 1)).map Prod.snd)) := Lib.hid (by rw [HtE.out, List.map_take]; exact ho4)
      have HA4 : Hid (Apart v1 v2) := Lib.hid (HA1.symm.grow ho3 had4).symm
      have HB4 : Hid (Below w2.heap.size w2 w4) := Fr.after (Fr.after HBn.out hf3 (fun i hi e => by have := HOn.out.base_le i e.symm; omega)) hf4 (fun i hi e => by have := HEn.out.base_le i e.symm; omega)
      clear ho3 hf3 had3 ho4 hf4 had4 HA1 hg1
      go_wp2_with fail
      go_roundw
      case rel => exact ⟨j + 1, by omega, by go_num, HO4, HE4, HA4, HB4⟩
      case measure => simp [intOf]; omega
    · obtain rfl : j = k := by omega
      rw [List.take_of_length_le (by rw [Hlk.out]; exact Nat.le_refl _)] at HO HE
      have HBw : Below w.heap.size w wr := HB2.out.trans (HB.out.mono HB2.out.size)
      have HG : Hid (MatR (fun _ => True) wr (.slice Ao j co) (tab j j (fun i => C (p i)))) := Lib.hid (by
        refine ⟨_, by simp [Hlk.out, tab], HO.out.reads.mono fun _ _ => trivial, fun i h1 h2 => ?_⟩
        have hi : i < fr.length := by simpa using h1
        have hi2 : i < j := by have := Hlk.out; omega
        have e2 : (tab j j (fun i => C (p i)))[i] = rowL j (C (p i)) := by simp [tab]
        rw [e2, List.getElem_map, Hpos.out i hi, Int.toNat_natCast]
        exact ((HM2.out.rows.row (p i) (Hp.out i hi2)).reads.fr (Fr.of_below HB.out _) fun _ h => h).mono fun _ _ => trivial)
      have HX : Hid (MatR (fun _ => True) wr (.slice Ae j ce) (tab j len D)) := Lib.hid (by
        refine ⟨_, by simp [Hlk.out, tab], HE.out.reads.mono fun _ _ => trivial, fun i h1 h2 => ?_⟩
        have hi : i < fr.length := by simpa using h1
        have e2 : (tab j len D)[i] = rowL len (D i) := by simp [tab]
        rw [e2, List.getElem_map]
        exact ((HD.out i hi).fr (Fr.of_below HBw _) fun _ h => h).mono fun _ _ => trivial)
      have HB3 := Lib.hid HBw
      have Hker : Hid (∀ (x : Nat → UInt8) (c : Nat), c < j → x c = 1 → Ker j (fun i => C (p i)) x → False) := Lib.hid (fun x c hc hx hk => by
        have := HC.out.ker (by omega) (by omega) p Hp.out Hinj.out x hk c hc
        rw [hx] at this
        exact absurd this (by decide))
      have Hlaw : Hid (∀ (Fo : Nat → Nat → UInt8), (∀ i c, i < j → c < j → mulF j (fun i => C (p i)) Fo i c = oneF i c) → ∀ i, i < j → ∀ b, atF j (fun t => mulF j Fo D t b) (UInt8.ofNat (p i)) = D i b) := Lib.hid (fun Fo hFo i hi b => by
        rw [← HC.out.at_ (by omega) (p i) (Hp.out i hi)]
        show mulF j (fun i => C (p i)) (mulF j Fo D) i b = D i b
        rw [← mulF_assoc]
        rw [mulF_congr j _ D oneF D i b (fun t ht => hFo i t hi ht) (fun _ _ => rfl)]
        exact one_mulF j D i b hi)
      clear HO HE HA HB HB2 HS2 HM2 HF HD hsz HC Hp Hinj Hpos Hg Hlk HBw
      generalize (fun i => C (p i)) = G at *
      go_wp2_with fail
      refine (inverse_calls _ j G _ _ HG.out (by omega) (by omega)).mono ?_
      rintro e w5 ⟨(⟨x, rx, Fo, rfl, hox, hi1, hi2⟩ | ⟨rfl, x, c', hc, hx, hker⟩), hb5⟩
      · have HB5 : Hid (Below w.heap.size w w5) := HB3.out.trans (hb5.mono HB3.out.size)
        have HXx := Lib.hid hox.matr
        have HX5 := Lib.hid (HX.out.below hb5)
        have HL := Lib.hid (Hlaw.out Fo hi2)
        obtain ⟨Ax, cx, rfl⟩ := hox.shape
        clear hox hi1 hi2 hb5 HG HX HB3 Hker Hlaw
        go_wp2_with fail
        refine (made_calls _).mono ?_
        rintro e w6 ⟨rfl, ht6, hb6⟩
        have HT6 := Lib.hid ht6
        have HB6 : Hid (Below w.heap.size w w6) := HB5.out.trans (hb6.mono HB5.out.size)
        have HX6 : Hid (MatR (· < w6.heap.size) w6 (.slice Ae j ce) (tab j len D)) := (HX5.out.below hb6).there.mono fun i hi => hi.2
        have HM6 : Hid (MatR (· < w6.heap.size) w6 (.slice Ax j cx) (tab j j Fo)) := (HXx.out.below hb6).there.mono fun i hi => hi.2
        have hs6 := HB6.out.size
        clear ht6 hb6 HX5 HXx HB5
        go_wp2_with fail
        go_loopw [18, 20, 68] (fun ov _ iv wr => ∃ (i : Nat) (rv : Nat → Value), i ≤ j ∧ iv = .int .i64 i ∧ Hid (OwnMat wr w6.heap.size ov i rv (fun t => rowL len (fun b => mulF j Fo D t b))) ∧ Hid (Below w6.heap.size w6 wr)) (fun _ _ iv _ => j - (intOf iv).toNat)
        case atStart => exact ⟨0, fun _ => .slice none 0 0, Nat.zero_le _, rfl, Lib.hid ((OwnMat.nil0 w6 w6.heap.size).congr _ (fun i hi => absurd hi (by omega))), Below.refl _ _⟩
        case round =>
          obtain ⟨i, rv, hi, rfl, HO, HB⟩ := hrel
          obtain ⟨Av, cv, rfl⟩ := HO.out.shape
          by_cases hlt : i < j
          · have hlt' : (i : Int) < (j : Int) := by omega
            have hszr := HB.out.size
            obtain ⟨ad, rvc, e, hpc, hcc, hrc⟩ := (HM6.out.fr (Fr.of_below HB.out (fun j => j < w6.heap.size)) (fun j hj => hj)).row i hlt
            subst e
            have HRc := Lib.hid hrc
            obtain ⟨Ar, cr, rfl, -, -⟩ := hrc
            rw [rowL_length] at *
            have HSr : Hid (MatR (· < w6.heap.size) wr (.slice Ae j ce) (tab j len D)) := HX6.out.fr (Fr.of_below HB.out (fun j => j < w6.heap.size)) (fun j hj => hj)
            have HTr : Hid (TabAt wr w5.heap.size) := HT6.out.below HB.out HT6.out.lt
            go_wp2_with fail
            refine (combine_calls w5.heap.size _ _ j len (Fo i) D _ _ _ HTr.out HRc.out HSr.out h1 (by omega) h3).mono ?_
            rintro e w7 ⟨nv, rfl, ho7, hb7⟩
            have HO7 : Hid (OwnB w7 wr.heap.size 5 nv (rowL len (fun b => mulF j Fo D i b))) := ho7
            have HB7 := Lib.hid hb7
            obtain ⟨An, nn, cn, rfl⟩ := ho7.shape
            clear ho7 hb7 hcc
            go_wp2_with (at_builtin; refine wpList_append_row w6.heap.size _ _ rfl (.slice Av i cv) (.slice An nn cn) i rv (fun t => rowL len (fun b => mulF j Fo D t b)) (rowL len (fun b => mulF j Fo D i b)) ?d1 ?d2 ?d3 ⟨_, _, _, rfl⟩ _ rfl rfl rfl ?d4 (by omega) rfl ?_)
            case d1 => exact HO.out.keep_below HB7.out
            case d2 => exact Own.lower HO7.out hszr
            case d3 => exact fun t ht b hb e => by have := (HO.out.rows.lt t ht b hb).2; have := (HO7.out.base_le b e).1; omega
            case d4 => have := HB7.out.size; omega
            intro v1 w8 ho8 hf8
            have HO8 := Lib.hid (ho8.congr (fun t => rowL len (fun b => mulF j Fo D t b)) (fun t _ => by by_cases e : t = i <;> simp [e]))
            have HB8 : Hid (Below w6.heap.size w6 w8) := Fr.after (HB.out.trans (HB7.out.mono hszr)) hf8 (fun t ht e => by have := HO.out.top_ge t e; omega)
            clear ho8 hf8
            go_wp2_with fail
            go_roundw
            case rel => exact ⟨i + 1, _, by omega, by go_num, HO8, HB8⟩
            case measure => simp [intOf]; omega
          · obtain rfl : i = j := by omega
            go_wp2_with fail
            go_ret2
            exact ⟨_, rv, _, rfl, ⟨HO.out.top.lower hs6, HO.out.rows.lower hs6⟩, HL.out, HB6.out.trans (HB.out.mono hs6)⟩
      · exact (Hker.out x c' hc hx hker).elim
end Go.Proofs.Ytddmifbgbmjdaab
