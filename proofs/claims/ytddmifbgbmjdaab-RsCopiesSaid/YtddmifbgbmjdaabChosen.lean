/- chosen, of a list all of which counts. -/
import Derived.Test.YtddmifbgbmjdaabFrag
import Derived.Deep.QuietTactic
import Derived.BigQuiet
set_option linter.unusedVariables false
set_option linter.unusedSimpArgs false
namespace Go.Proofs.Ytddmifbgbmjdaab
open Go.RowKit
/-- All fragments count: as many as shards, each at a place of its own, each as long as the others. -/
structure AllGood (k m len : Nat) (fr : List (Int × Value)) : Prop where
  len_ : fr.length = k
  pos : ∀ i (h : i < fr.length), 0 ≤ fr[i].1 ∧ fr[i].1 < (k : Int) + m
  apart : ∀ i j (hi : i < fr.length) (hj : j < fr.length), fr[i].1 = fr[j].1 → i = j
  row : ∀ i (h : i < fr.length), ∃ A c, fr[i].2 = .slice A len c

set_option maxHeartbeats 4000000 in
theorem chosen_calls (k m len : Nat) (v : Value) (fr : List (Int × Value)) (P : Nat → Prop) (w : World) (hv : FragR P w v fr) (hg : AllGood k m len fr) (hk : k + m ≤ 256) :
    Calls Try.prog 55 #[.int .i64 (k : Int), .int .i64 (m : Int), v] w fun e w' => ∃ v', e = .returned (.tuple #[v', .int .i64 0]) ∧ FragR (w.heap.size ≤ ·) w' v' fr ∧ Below w.heap.size w w' := by
  have Hv := Lib.hid hv
  have Hg := Lib.hid hg
  obtain ⟨A, c, rfl, hl1, hl2⟩ := hv.shape
  have HB0 : Hid (Below w.heap.size w w) := Below.refl _ _
  have HO0 : Hid (FragO w w.heap.size (.slice none 0 0) (fr.take 0)) := FragO.nil _ _
  have hlk := hg.len_
  have hmf : ∀ (fn : Fn) (first cap : Array Value) (w : World), (Instr.makeFunc fn first cap).run Try.prog w = .ok (.func fn first cap) w := fun _ _ _ _ => rfl
  have hkm : IntKind.i64.wrap ((k : Int) + (m : Int)) = (k : Int) + (m : Int) := by rw [IntKind.wrap_i64]; omega
  clear hv hg
  rw [hlk] at Hv ⊢
  have Hlk := Lib.hid hlk
  clear hlk
  go_enter Try.func55, Try.ntmps55
  go_wp2_with fail
  go_loopw [8, 10, 13] (fun ov _ i wr => ∃ j : Nat, j ≤ k ∧ i = .int .i64 j ∧ Hid (FragO wr w.heap.size ov (fr.take j)) ∧ Hid (Below w.heap.size w wr)) (fun _ _ i _ => k - (intOf i).toNat)
  case atStart => exact ⟨0, Nat.zero_le _, rfl, HO0, HB0⟩
  case round =>
    obtain ⟨j, hj, rfl, HO, HB⟩ := hrel
    clear HB0 HO0
    obtain ⟨Ao, co, rfl⟩ : ∃ A c, u8 = .slice A j c := by
      obtain ⟨A, c, e, _⟩ := HO.out.reads
      exact ⟨A, c, by rw [e, List.length_take, Hlk.out, Nat.min_eq_left hj]⟩
    have hsz := HB.out.size
    by_cases hlt : j < k
    · have hj' : j < fr.length := by have := Hlk.out; omega
      have hltk : (j : Int) < (k : Int) := by omega
      have hk0 : (0 : Int) < (k : Int) := by omega
      have hk0n : 0 < k := by omega
      obtain ⟨ad, rfl, hp, hc1, hc2, hc3⟩ := (Hv.out.below HB.out).at_ j hj'
      obtain ⟨_, e0, hp0, hd1, hd2, hd3⟩ := (Hv.out.below HB.out).at_ 0 (by have := Hlk.out; omega)
      cases e0
      obtain ⟨A2, c2, he⟩ := Hg.out.row j hj'
      obtain ⟨A0, c0, he0⟩ := Hg.out.row 0 (by have := Hlk.out; omega)
      rw [he] at hc2 hc3
      rw [he0] at hd2 hd3
      obtain ⟨p1, p2⟩ := Hg.out.pos j hj'
      have hnew : Hid (decide (∃ p ∈ fr.take j, p.1 = fr[j].1) = false) := Lib.hid (decide_eq_false (fun ⟨p, hp, e⟩ => by
        obtain ⟨i, hi, rfl⟩ := List.getElem_of_mem hp
        have hi2 : i < j := by simp at hi; omega
        rw [List.getElem_take] at e
        have := Hg.out.apart i j (by omega) hj' e
        omega))
      have htk : Hid (fr.take (j + 1) = fr.take j ++ [(fr[j].1, .slice A2 len c2)]) := Lib.hid (by
        rw [List.take_succ_eq_append_getElem hj', ← he])
      generalize hpk : fr[j].1 = q at *
      have Hpk := Lib.hid hpk
      have Hd1 := Lib.hid hd1
      clear hpk he he0 hd1 hd2
      have q1 : decide (q < 0) = false := decide_eq_false (by omega)
      have q2 : decide ((k : Int) + m ≤ q) = false := decide_eq_false (by omega)
      go_wp2_with (refine wpList_load_frag rfl _ rfl (ad.add (j * 2)) rfl q (.slice A2 len c2) hc1 hc3 ?_)
      have hbn : Below wr.heap.size wr (wr.alloc (.cells #[.int .i64 q, .slice A2 len c2] 51)) := (Below.refl _ _).alloc (Nat.le_refl _) _
      have hf0 : (wr.alloc (.cells #[.int .i64 q, .slice A2 len c2] 51)).cell? ⟨wr.heap.size, 0, none⟩ = some (.int .i64 q) := (Bk.new wr 51 _).cell 0
      have hf1 : (wr.alloc (.cells #[.int .i64 q, .slice A2 len c2] 51)).cell? ⟨wr.heap.size, 1, none⟩ = some (.slice A2 len c2) := (Bk.new wr 51 _).cell 1
      have hd4 : (wr.alloc (.cells #[.int .i64 q, .slice A2 len c2] 51)).cell? (ad.add 1) = some (.slice A0 len c0) := by
        rw [Nat.zero_mul, add_zero] at hd3
        rw [hbn.cell (World.block_lt_of_cell? _ _ hd3)]; exact hd3
      have hd5 : (wr.alloc (.cells #[.int .i64 q, .slice A2 len c2] 51)).cell? ⟨ad.block, ad.off + 1, none⟩ = some (.slice A0 len c0) := by
        rw [← hd4]; congr 1
      have HOn : Hid (FragO (wr.alloc (.cells #[.int .i64 q, .slice A2 len c2] 51)) w.heap.size (.slice Ao j co) (fr.take j)) := HO.out.keep_below hbn
      have HBn : Hid (Below w.heap.size w (wr.alloc (.cells #[.int .i64 q, .slice A2 len c2] 51))) := HB.out.trans (hbn.mono hsz)
      have hszn : wr.heap.size < (wr.alloc (.cells #[.int .i64 q, .slice A2 len c2] 51)).heap.size := by simp
      clear hbn HO HB hd3 hc1 hc3 hc2
      generalize (wr.alloc (.cells #[.int .i64 q, .slice A2 len c2] 51)) = W at *
      generalize wr.heap.size = g at *
      go_quiet (fail)
      go_wp2_with fail
      have hg0 : (W.drewN nq).cell? ⟨g, 0, none⟩ = some (.int .i64 q) := hf0
      have hg1 : (W.drewN nq).cell? ⟨g, 1, none⟩ = some (.slice A2 len c2) := hf1
      have HOm : Hid (FragO (W.drewN nq) w.heap.size (.slice Ao j co) (fr.take j)) := HOn.out.keep_below (below_drewN (Below.refl _ _) nq)
      have HBm : Hid (Below w.heap.size w (W.drewN nq)) := below_drewN HBn.out nq
      clear HOn HBn hf0 hf1 hd4 hd5 hszn
      generalize W.drewN nq = W1 at *
      refine (contfrag_calls g q _ (fr.take j) _ _ HOm.out.reads ?hs hg0).mono ?_
      case hs =>
        intro i hi
        have hi2 : i < j := by simp at hi; omega
        obtain ⟨A3, c3, e⟩ := Hg.out.row i (by omega)
        rw [List.getElem_take]
        exact ⟨_, _, _, e⟩
      rintro e W2 ⟨rfl, hb2⟩
      rw [hnew.out]
      have hh0 : W2.cell? ⟨g, 0, none⟩ = some (.int .i64 q) := by rw [hb2.cell (World.block_lt_of_cell? _ _ hg0)]; exact hg0
      have hh1 : W2.cell? ⟨g, 1, none⟩ = some (.slice A2 len c2) := by rw [hb2.cell (World.block_lt_of_cell? _ _ hg1)]; exact hg1
      have HO2 : Hid (FragO W2 w.heap.size (.slice Ao j co) (fr.take j)) := HOm.out.keep_below hb2
      have HB2 : Hid (Below w.heap.size w W2) := HBm.out.trans (hb2.mono HBm.out.size)
      have hs2 := HB2.out.size
      have htl : Hid ((fr.take j).length = j) := Lib.hid (by simp; omega)
      clear hb2 hg0 hg1 HOm HBm
      go_wp2_with (first
        | (at_builtin; refine wpList_append_frag w.heap.size _ _ rfl rfl (.slice Ao j co) q A2 len c2 (fr.take j) HO2.out _ rfl rfl rfl hs2 ?c6 ?_)
        | (refine wpList_load_frag rfl _ rfl ⟨g, 0, none⟩ rfl q (.slice A2 len c2) hh0 hh1 ?_))
      case c6 => rw [htl.out]; omega
      intro v1 W3 ho3 hf3
      have HO3 : Hid (FragO W3 w.heap.size v1 (fr.take (j + 1))) := Lib.hid (by rw [htk.out]; exact ho3)
      have HB3 : Hid (Below w.heap.size w W3) := Fr.after HB2.out hf3 (fun i hi e => by have := HO2.out.base_le i e.symm; omega)
      clear ho3 hf3
      go_wp2_with fail
      go_roundw
      case rel => exact ⟨j + 1, by omega, by go_num, HO3, HB3⟩
      case measure => simp [intOf]; omega
    · obtain rfl : j = k := by omega
      go_wp2_with fail
      go_ret2
      exact ⟨_, rfl, by
        have h := HO.out
        rw [List.take_of_length_le (by rw [Hlk.out]; exact Nat.le_refl _)] at h
        exact h.reads.mono fun i hi => (h.base_le i hi).1, HB.out⟩
end Go.Proofs.Ytddmifbgbmjdaab
