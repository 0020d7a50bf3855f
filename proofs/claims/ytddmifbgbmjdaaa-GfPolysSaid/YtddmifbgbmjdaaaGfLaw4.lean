/- GfPolys, walked. -/
import Derived.Test.YtddmifbgbmjdaaaGfLaw3
set_option linter.unusedVariables false
set_option linter.unusedSimpArgs false
namespace Go.Proofs.Ytddmifbgbmjdaaa
open Go.RowKit

/-- The sum of two polynomials. -/
def zipx : List UInt8 → List UInt8 → List UInt8
  | [], q => q
  | a :: p, [] => a :: p
  | a :: p, b :: q => (a ^^^ b) :: zipx p q
theorem zipx_nil (p : List UInt8) : zipx p [] = p := by cases p <;> rfl
theorem zipx_length (p : List UInt8) : ∀ q, (zipx p q).length = max p.length q.length := by
  induction p with
  | nil => intro q; simp [zipx]
  | cons a p ih =>
    intro q
    cases q with
    | nil => simp [zipx]
    | cons b q => simp [zipx, ih]
theorem zipx_in (p : List UInt8) : ∀ (q : List UInt8) (b : UInt8), q.length < p.length → zipx p (q ++ [b]) = (zipx p q).set q.length ((zipx p q).getD q.length 0 ^^^ b) := by
  induction p with
  | nil => intro q b h; simp at h
  | cons a p ih =>
    intro q b h
    cases q with
    | nil => simp [zipx, zipx_nil]
    | cons c q =>
      have := ih q b (by simpa using h)
      simp only [List.cons_append, zipx, this, List.length_cons, List.set_cons_succ, List.getD_cons_succ]
theorem zipx_out (p : List UInt8) : ∀ (q : List UInt8) (b : UInt8), p.length ≤ q.length → zipx p (q ++ [b]) = zipx p q ++ [b] := by
  induction p with
  | nil => intro q b h; simp [zipx]
  | cons a p ih =>
    intro q b h
    cases q with
    | nil => simp at h
    | cons c q =>
      have := ih q b (by simpa using h)
      simp only [List.cons_append, zipx, this]
theorem geval_zip (x : UInt8) (p : List UInt8) : ∀ q, geval x (zipx p q) = geval x p ^^^ geval x q := by
  induction p with
  | nil => intro q; rw [show geval x [] = 0 from rfl, zero_xor8]; rfl
  | cons a p ih =>
    intro q
    cases q with
    | nil => rw [zipx_nil, show geval x [] = 0 from rfl, xor_zero8]
    | cons b q =>
      show gmul (geval x (zipx p q)) x ^^^ (a ^^^ b) = (gmul (geval x p) x ^^^ a) ^^^ (gmul (geval x q) x ^^^ b)
      rw [ih, xor_gmul]
      generalize gmul (geval x p) x = u
      generalize gmul (geval x q) x = v
      refine u8_ext ?_
      simp only [UInt8.toNat_xor]
      ac_rfl
theorem geval_up (x : UInt8) (p : List UInt8) : geval x (x :: p) = x ^^^ gmul x (geval x p) := by
  show gmul (geval x p) x ^^^ x = _
  rw [gmul_comm]
  generalize gmul x (geval x p) = u
  refine u8_ext ?_
  simp only [UInt8.toNat_xor]
  ac_rfl
theorem info_u8p : (Try.prog.info? 5).map (fun i => (i.zero, i.size, i.bytes)) = some (some (.int .u8 0), 1, 1) := by kernel_rfl
set_option maxHeartbeats 8000000 in
set_option maxRecDepth 10000 in
theorem gf_polys (v0 : Value) (p : List UInt8) (v1 : Value) (q : List UInt8) (x : UInt8) (w : World) (h0 : Bytes (· < w.heap.size) w v0 p) (h1 : Bytes (· < w.heap.size) w v1 q) : Calls Try.prog 11 #[v0, v1, .int .u8 (x.toNat : Int)] w fun e w' => e = .returned (.bool true) ∧ Below w.heap.size w w' := by
  by_cases c0 : p.length ≤ 200 ∧ q.length ≤ 200
  · obtain ⟨c1, c2⟩ := c0
    have H0 := Lib.hid h0
    have H1 := Lib.hid h1
    obtain ⟨A, cp, rfl, hl, hc⟩ := h0
    obtain ⟨A1, cp1, rfl, hl1, hc1⟩ := h1
    clear hc hc1
    go_enter Try.func11, Try.ntmps11
    go_wp2_with (at_builtin; refine wpList_append_bytes (R := (· < w.heap.size)) w.heap.size _ _ _ 5 rfl Try.underlying22 info_u8p (.slice (some ⟨w.heap.size, 0, none⟩) 0 0) (.slice A p.length cp) [] p rfl rfl (OwnB.empty _ _ _ (Nat.le_refl _)) ?c1 ?c2 ?c3 rfl ?_)
    case c1 => exact H0.out.below ((Below.refl _ _).alloc (Nat.le_refl _) _)
    case c2 => simp
    case c3 => simp; omega
    intro v2 w2 ho2 hf2 hat2
    have hb2 : Below w.heap.size w w2 := fr_below ((Below.refl _ _).alloc (Nat.le_refl _) _) hf2 (fun k hk => by simp [Value.ownBlock] at hk; omega)
    clear hf2 hat2
    obtain ⟨A2, n2, cp2, rfl⟩ := ho2.shape
    go_wp2_with fail
    go_loopw [7, 8] (fun y i wr => ∃ (k : Nat) (s : List UInt8) (v : Value), k ≤ q.length ∧ v = y ∧ i = .int .i64 k ∧ Hid (s = zipx p (q.take k)) ∧ Hid (OwnB wr w.heap.size 5 v s) ∧ Hid (Below w.heap.size w wr)) (fun _ i _ => q.length - (intOf i).toNat)
    case atStart => exact ⟨0, p, _, Nat.zero_le _, rfl, rfl, Lib.hid (by rw [List.take_zero, zipx_nil]), Lib.hid ho2, Lib.hid hb2⟩
    case round =>
      clear ho2 hb2
      obtain ⟨k, s, v, hk, rfl, rfl, Hs, ho, hb⟩ := hrel
      have hsl : s.length = max p.length k := by rw [Hs.out, zipx_length, List.length_take, Nat.min_eq_left hk]
      have Hsl := Lib.hid hsl
      clear hsl
      by_cases hlt : k < q.length
      · have hq := H1.out.below hb.out
        obtain ⟨A1', cp1', e1, hl1', hc1⟩ := hq
        simp only [Value.slice.injEq] at e1
        obtain ⟨rfl, -, rfl⟩ := e1
        obtain ⟨ad, rfl, hb1, hcell1⟩ := rd_at hc1 k hlt
        have Htk : Hid (q.take (k + 1) = q.take k ++ [q[k]]) := by unfold Hid; rw [List.take_add_one]; simp [hlt]
        have hlk : (q.take k).length = k := by simp; omega
        generalize q[k]'(by omega) = c at *
        clear hc1 hl1'
        by_cases hin : k < p.length
        · have hks : k < s.length := by rw [Hsl.out]; omega
          obtain ⟨g, cap, rfl, hg1, hg2, hcap⟩ := ho.out.form (by omega)
          obtain ⟨b, hbk, hcell2, hfro⟩ := ho.out.cellD k (by omega)
          have hst := Lib.hid (ho.out.stored k (b ^^^ c))
          have Hz : Hid (s.set k (b ^^^ c) = zipx p (q.take (k + 1))) := by
            unfold Hid
            rw [Htk.out, zipx_in p _ _ (by rw [hlk]; exact hin), hlk, ← Hs.out, hbk]
          have Hx := Lib.hid (xor_b8 b c)
          clear hbk hlk
          go_wp2_with fail
          go_region
          have Hb3 : Hid (Below w.heap.size w (wr.setCell ⟨g, k, none⟩ (.int .u8 ((b ^^^ c).toNat : Int)))) := Lib.hid (hb.out.setCell hg1 _)
          rw [Hx.out]
          go_wp2_with fail
          go_roundw
          case rel => 
            refine ⟨k + 1, s.set k (b ^^^ c), .slice (some ⟨g, 0, none⟩) s.length cap, by omega, rfl, by go_num, Hz, ?_, ?_⟩
            · exact Lib.hid (hst.out.keep (Fr.of_below (below_drewN (Below.refl _ _) 1) _))
            · exact Lib.hid (below_drewN Hb3.out 1)
          case measure => simp [intOf]; omega
        · obtain ⟨A3, n3, cp3, rfl⟩ := ho.out.shape
          have Hz : Hid (s ++ [c] = zipx p (q.take (k + 1))) := by
            unfold Hid
            rw [Htk.out, zipx_out p _ _ (by rw [hlk]; omega), ← Hs.out]
          have hn3 : n3 = s.length := by
            obtain ⟨_, _, e3, _⟩ := ho.out.reads
            simp only [Value.slice.injEq] at e3
            exact e3.2.1
          subst hn3
          clear hlk
          have hnl : s.length ≤ k := by rw [Hsl.out]; omega
          go_wp2_with (at_builtin; go_loud (refine wpList_append_one (f := u8v) (fun _ => rfl) w.heap.size _ _ _ 5 (.int .u8 0) 1 rfl Try.underlying22 info_u8p rfl (by omega) (.slice A3 s.length cp3) s c _ rfl _ rfl rfl rfl ho.out ?c1 ?c2 rfl ?_))
          case c1 => exact hb.out.size
          case c2 => omega
          intro v3 w3 ho3 hf3 hat3
          obtain ⟨A4, n4, cp4, rfl⟩ := ho3.shape
          have Ho3 := Lib.hid ho3
          have Hb3 : Hid (Below w.heap.size w w3) := Lib.hid (fr_below hb.out hf3 (fun j hj => (ho.out.base_le j hj).1))
          clear ho3 hf3 hat3
          go_wp2_with fail
          go_roundw
          case rel => exact ⟨k + 1, _, _, by omega, rfl, by go_num, Hz, Ho3, Hb3⟩
          case measure => simp [intOf]; omega
      · obtain rfl : k = q.length := by omega
        have Hz : Hid (geval x s = geval x p ^^^ geval x q) := by
          unfold Hid; rw [Hs.out, List.take_length, geval_zip]
        have Hup := Lib.hid (geval_up x p)
        have Hr := Lib.hid ho.out.reads
        have Hlo := Lib.hid ho.out.base_le
        obtain ⟨A3, n3, cp3, rfl⟩ := ho.out.shape
        have hs400 : s.length ≤ 200 := by rw [Hsl.out]; omega
        have hbs := hb.out.size
        clear ho Hs Hsl
        go_wp2_with (at_builtin; go_loud (refine wpList_append_bytes (R := (· < w.heap.size)) wr.heap.size _ _ _ 5 rfl Try.underlying22 info_u8p (.slice (some ⟨wr.heap.size, 0, none⟩) 1 1) (.slice A p.length cp) [x] p rfl rfl (own_lit u8v _ _ _ [x] _ _ _ _ (Nat.le_refl _) rfl rfl rfl rfl (by simp)) ?d1 ?d2 ?d3 rfl ?_))
        case d1 => exact (H0.out.below hb.out).below ((Below.refl _ _).alloc (Nat.le_refl _) _)
        case d2 => simp
        case d3 => simp; omega
        intro v4 w4 ho4 hf4 hat4
        have Hb4 : Hid (Below wr.heap.size wr w4) := Lib.hid (fr_below ((Below.refl _ _).alloc (Nat.le_refl _) _) hf4 (fun k hk => by simp [Value.ownBlock] at hk; omega))
        have Hb5 : Hid (Below w.heap.size w w4) := Lib.hid (hb.out.trans (Hb4.out.mono hbs))
        have Hr4 := Lib.hid ho4.reads
        have Hlo4 := Lib.hid ho4.base_le
        obtain ⟨A5, n5, cp5, rfl⟩ := ho4.shape
        have Hrs : Hid (Bytes (· < wr.heap.size) wr (.slice A3 n3 cp3) s) := Lib.hid (Hr.out.there.mono fun k h => h.2)
        have Hrs4 : Hid (Bytes (· < w4.heap.size) w4 (.slice A5 n5 cp5) ([x] ++ p)) := Lib.hid (Hr4.out.there.mono fun k h => h.2)
        have Hrs2 : Hid (Bytes (· < wr.heap.size) w4 (.slice A3 n3 cp3) s) := Lib.hid (Hrs.out.below Hb4.out)
        have hs5 := Hb4.out.size
        clear ho4 hf4 hat4 Hlo Hlo4 Hr Hr4 Hrs
        go_wp2_with fail
        refine (awake01_calls _).mono ?_
        rintro e w5 ⟨rfl, hb5⟩
        have Hb6 : Hid (Below w.heap.size w w5) := Lib.hid (Hb5.out.trans (hb5.mono Hb5.out.size))
        go_wp2_with fail
        refine (eval8 _ s x _ _ (Hrs2.out.below hb5) (by omega)).mono ?_
        rintro e w6 ⟨rfl, D6⟩
        go_wp2_with fail
        refine (eval8 _ p x _ _ ((H0.out.below Hb6.out).below (D6.below _)) (by omega)).mono ?_
        rintro e w7 ⟨rfl, D7⟩
        go_wp2_with fail
        refine (eval8 _ q x _ _ (((H1.out.below Hb6.out).below (D6.below _)).below (D7.below _)) (by omega)).mono ?_
        rintro e w8 ⟨rfl, D8⟩
        go_wp2_with fail
        refine (add8 _ _ _).mono ?_
        rintro e w9 ⟨rfl, rfl⟩
        rw [Hz.out]
        go_wp2_with fail
        refine (eval8 _ ([x] ++ p) x _ _ ((((Hrs4.out.below hb5).below (D6.below _)).below (D7.below _)).below (D8.below _)) (by simp; omega)).mono ?_
        rintro e w9 ⟨rfl, D9⟩
        go_wp2_with fail
        refine (eval8 _ p x _ _ (((((H0.out.below Hb6.out).below (D6.below _)).below (D7.below _)).below (D8.below _)).below (D9.below _)) (by omega)).mono ?_
        rintro e w10 ⟨rfl, D10⟩
        go_wp2_with fail
        refine (mul8 _ _ _).mono ?_
        rintro e w11 ⟨rfl, rfl⟩
        go_wp2_with fail
        refine (add8 _ _ _).mono ?_
        rintro e w11 ⟨rfl, rfl⟩
        rw [← Hup.out]
        go_wp2_with fail
        go_ret
        exact ⟨by simp, ((((Hb6.out.trans (D6.below _)).trans (D7.below _)).trans (D8.below _)).trans (D9.below _)).trans (D10.below _)⟩
  · obtain ⟨A, cp, rfl, hl, hc⟩ := h0
    obtain ⟨A1, cp1, rfl, hl1, hc1⟩ := h1
    clear hc hc1
    by_cases c1 : p.length ≤ 200 <;> by_cases c2 : q.length ≤ 200
    all_goals first
      | exact absurd c0 (by omega)
      | (clear c0
         go_enter Try.func11, Try.ntmps11
         go_wp2_with fail
         refine (awake01_calls _).mono ?_
         rintro e w1 ⟨rfl, hb1⟩
         go_wp2_with fail
         go_ret
         exact ⟨rfl, hb1⟩)
end Go.Proofs.Ytddmifbgbmjdaaa
