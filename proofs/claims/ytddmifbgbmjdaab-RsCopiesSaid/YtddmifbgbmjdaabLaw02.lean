/- The fixed fact of the laws on matrices. -/
import Derived.Test.YtddmifbgbmjdaabMat9
import Derived.Test.YtddmifbgbmjdaabRef3
import Derived.Test.YtddmifbgbmjdaabCut
set_option linter.unusedVariables false
set_option linter.unusedSimpArgs false
namespace Go.Proofs.Ytddmifbgbmjdaab
open Go.RowKit

theorem OwnMat.mat {w : World} {base : Nat} {v : Value} {n c : Nat} {rv : Nat → Value} {F : Nat → Nat → UInt8} (h : OwnMat w base v n rv (fun i => rowL c (F i))) : MatR (base ≤ ·) w v (tab n c F) := h.reads
theorem matR_lit2 (w : World) (r1 r2 : Array Value) (l1 l2 : List UInt8) (h1 : r1 = (l1.map u8v).toArray) (h2 : r2 = (l2.map u8v).toArray) (n : Nat) (hn1 : n = l1.length) (hn2 : n = l2.length) (hn : n ≤ 1000) :
    MatR (w.heap.size ≤ ·) (((w.alloc (.cells r1 5)).alloc (.cells r2 5)).alloc (.cells #[.slice (some ⟨w.heap.size, 0, none⟩) n n, .slice (some ⟨w.heap.size + 1, 0, none⟩) n n] 27)) (.slice (some ⟨w.heap.size + 1 + 1, 0, none⟩) 2 2) [l1, l2] := by
  have b1 : Bytes (w.heap.size ≤ ·) (w.alloc (.cells r1 5)) (.slice (some ⟨w.heap.size, 0, none⟩) n n) l1 := bytes_lit w _ (0, 0) l1 _ _ _ _ rfl hn1 h1 (by omega)
  have b2 : Bytes (fun k => (w.alloc (.cells r1 5)).heap.size ≤ k) ((w.alloc (.cells r1 5)).alloc (.cells r2 5)) (.slice (some ⟨w.heap.size + 1, 0, none⟩) n n) l2 := bytes_lit _ _ (0, 0) l2 _ _ _ _ (by simp) hn2 h2 (by omega)
  refine ⟨[.slice (some ⟨w.heap.size, 0, none⟩) n n, .slice (some ⟨w.heap.size + 1, 0, none⟩) n n], rfl, ?_, fun i h3 h4 => ?_⟩
  · refine Sl.mono (sl_lit id _ _ (0, 0) [.slice (some ⟨w.heap.size, 0, none⟩) n n, .slice (some ⟨w.heap.size + 1, 0, none⟩) n n] _ _ _ _ (by simp) rfl (by simp) (by simp)) (fun k hk => by simp at hk; omega)
  · match i with
    | 0 => exact (b1.below ((Below.refl _ _).alloc (Nat.le_refl _) _)).below ((Below.refl _ _).alloc (Nat.le_refl _) _)
    | 1 => exact (b2.below ((Below.refl _ _).alloc (Nat.le_refl _) _)).mono (fun k hk => by simp at hk; omega)
    | n + 2 => simp at h3; omega
theorem matR_lit3 (w : World) (r1 r2 r3 : Array Value) (l1 l2 l3 : List UInt8) (h1 : r1 = (l1.map u8v).toArray) (h2 : r2 = (l2.map u8v).toArray) (h3 : r3 = (l3.map u8v).toArray) (n : Nat) (hn1 : n = l1.length) (hn2 : n = l2.length) (hn3 : n = l3.length) (hn : n ≤ 1000) :
    MatR (w.heap.size ≤ ·) ((((w.alloc (.cells r1 5)).alloc (.cells r2 5)).alloc (.cells r3 5)).alloc (.cells #[.slice (some ⟨w.heap.size, 0, none⟩) n n, .slice (some ⟨w.heap.size + 1, 0, none⟩) n n, .slice (some ⟨w.heap.size + 1 + 1, 0, none⟩) n n] 27)) (.slice (some ⟨w.heap.size + 1 + 1 + 1, 0, none⟩) 3 3) [l1, l2, l3] := by
  have b1 : Bytes (w.heap.size ≤ ·) (w.alloc (.cells r1 5)) (.slice (some ⟨w.heap.size, 0, none⟩) n n) l1 := bytes_lit w _ (0, 0) l1 _ _ _ _ rfl hn1 h1 (by omega)
  have b2 : Bytes (fun k => (w.alloc (.cells r1 5)).heap.size ≤ k) ((w.alloc (.cells r1 5)).alloc (.cells r2 5)) (.slice (some ⟨w.heap.size + 1, 0, none⟩) n n) l2 := bytes_lit _ _ (0, 0) l2 _ _ _ _ (by simp) hn2 h2 (by omega)
  have b3 : Bytes (fun k => ((w.alloc (.cells r1 5)).alloc (.cells r2 5)).heap.size ≤ k) (((w.alloc (.cells r1 5)).alloc (.cells r2 5)).alloc (.cells r3 5)) (.slice (some ⟨w.heap.size + 1 + 1, 0, none⟩) n n) l3 := bytes_lit _ _ (0, 0) l3 _ _ _ _ (by simp) hn3 h3 (by omega)
  refine ⟨[.slice (some ⟨w.heap.size, 0, none⟩) n n, .slice (some ⟨w.heap.size + 1, 0, none⟩) n n, .slice (some ⟨w.heap.size + 1 + 1, 0, none⟩) n n], rfl, ?_, fun i h3 h4 => ?_⟩
  · refine Sl.mono (sl_lit id _ _ (0, 0) [.slice (some ⟨w.heap.size, 0, none⟩) n n, .slice (some ⟨w.heap.size + 1, 0, none⟩) n n, .slice (some ⟨w.heap.size + 1 + 1, 0, none⟩) n n] _ _ _ _ (by simp) rfl (by simp) (by simp)) (fun k hk => by simp at hk; omega)
  · match i with
    | 0 => exact ((b1.below ((Below.refl _ _).alloc (Nat.le_refl _) _)).below ((Below.refl _ _).alloc (Nat.le_refl _) _)).below ((Below.refl _ _).alloc (Nat.le_refl _) _)
    | 1 => exact ((b2.below ((Below.refl _ _).alloc (Nat.le_refl _) _)).below ((Below.refl _ _).alloc (Nat.le_refl _) _)).mono (fun k hk => by simp at hk; omega)
    | 2 => exact (b3.below ((Below.refl _ _).alloc (Nat.le_refl _) _)).mono (fun k hk => by simp at hk; omega)
    | n + 3 => simp at h3; omega
def lit2 (a b c d : UInt8) : Nat → Nat → UInt8 := mget [[a, b], [c, d]]
theorem lit2_tab (a b c d : UInt8) : [[a, b], [c, d]] = tab 2 2 (lit2 a b c d) := rfl
theorem ker_1112 (x : Nat → UInt8) (c : Nat) (hc : c < 2) (h1 : x c = 1) (hk : Ker 2 (lit2 1 1 1 2) x) : False := by
  have h0 : (0 ^^^ gmul 1 (x 0)) ^^^ gmul 1 (x 1) = 0 := hk 0 (by omega)
  have h2 : (0 ^^^ gmul 1 (x 0)) ^^^ gmul 2 (x 1) = 0 := hk 1 (by omega)
  rw [UInt8.zero_xor, one_gmul] at h0 h2
  rw [one_gmul] at h0
  have e0 : x 0 = x 1 := xor_right (c := x 1) (by rw [h0, UInt8.xor_self])
  have e1 : x 0 = gmul 2 (x 1) := xor_right (c := gmul 2 (x 1)) (by rw [h2, UInt8.xor_self])
  have h3 : gmul 3 (x 1) = 0 := by
    rw [show (3 : UInt8) = 2 ^^^ 1 from rfl, xor_gmul, one_gmul, ← e1, e0, UInt8.xor_self]
  rcases gmul_eq_zero h3 with h | h
  · exact absurd h (by decide)
  · match c with
    | 0 => rw [e0, h] at h1; exact absurd h1 (by decide)
    | 1 => rw [h] at h1; exact absurd h1 (by decide)
    | n + 2 => omega
theorem inv_1111 (Fo : Nat → Nat → UInt8) (h : ∀ i k, i < 2 → k < 2 → mulF 2 Fo (lit2 1 1 1 1) i k = oneF i k) : False := by
  have h0 := h 0 0 (by omega) (by omega)
  have h1 := h 0 1 (by omega) (by omega)
  have e : mulF 2 Fo (lit2 1 1 1 1) 0 0 = mulF 2 Fo (lit2 1 1 1 1) 0 1 := rfl
  rw [h0, h1] at e
  exact absurd e (by decide)
set_option maxHeartbeats 8000000 in
set_option maxRecDepth 100000 in
theorem awake02_calls (w : World) : Calls Try.prog 18 #[] w fun e w' => e = .returned (.bool true) ∧ Below w.heap.size w w' := by
  have L1 : Hid (MatR (w.heap.size ≤ ·) _ (.slice (some ⟨w.heap.size + 1 + 1, 0, none⟩) 2 2) [[1, 1], [1, 2]]) := matR_lit2 w #[.int .u8 1, .int .u8 1] #[.int .u8 1, .int .u8 2] [1, 1] [1, 2] rfl rfl 2 rfl rfl (by omega)
  go_enter Try.func18, Try.ntmps18
  go_wp2_with fail
  refine (inverse_calls _ 2 (lit2 1 1 1 2) _ _ L1.out (by omega) (by omega)).mono ?_
  rintro e w1 ⟨(⟨x, rx, Fo, rfl, hox, hi1, hi2⟩ | ⟨rfl, x, c, hc, hx, hk⟩), hb1⟩
  · have HOX := Lib.hid hox
    have HI := Lib.hid hi1
    have HB1 : Hid (Below w.heap.size w w1) := ((((Below.refl _ _).alloc (Nat.le_refl _) _).alloc (by simp) _).alloc (by simp; omega) _).trans (hb1.mono (by simp; omega))
    obtain ⟨Ax, cx, rfl⟩ := hox.shape
    clear hox hi1 hi2 hb1
    have L2 : Hid (MatR (w1.heap.size ≤ ·) _ (.slice (some ⟨w1.heap.size + 1 + 1, 0, none⟩) 2 2) [[1, 1], [1, 2]]) := matR_lit2 w1 #[.int .u8 1, .int .u8 1] #[.int .u8 1, .int .u8 2] [1, 1] [1, 2] rfl rfl 2 rfl rfl (by omega)
    have hbl : Below w1.heap.size w1 (((w1.alloc (.cells #[.int .u8 1, .int .u8 1] 5)).alloc (.cells #[.int .u8 1, .int .u8 2] 5)).alloc (.cells #[.slice (some ⟨w1.heap.size, 0, none⟩) 2 2, .slice (some ⟨w1.heap.size + 1, 0, none⟩) 2 2] 27)) := (((Below.refl _ _).alloc (Nat.le_refl _) _).alloc (by simp) _).alloc (by simp; omega) _
    have HBL := Lib.hid hbl
    clear hbl
    go_wp2_with fail
    refine (mmul_calls _ _ 2 2 2 Fo (lit2 1 1 1 2) _ _ _ (HOX.out.keep_below HBL.out).mat L2.out (by omega) (by omega) (by omega) (by omega) (by omega) (by omega)).mono ?_
    rintro e w2 ⟨y, ry, rfl, hoy, hb2⟩
    have HOY := Lib.hid hoy
    have HB2 : Hid (Below w.heap.size w w2) := HB1.out.trans ((HBL.out.trans (hb2.mono HBL.out.size)).mono HB1.out.size)
    obtain ⟨Ay, cy, rfl⟩ := hoy.shape
    clear hoy hb2 HBL HB1
    have L3 : Hid (MatR (w2.heap.size ≤ ·) _ (.slice (some ⟨w2.heap.size + 1 + 1, 0, none⟩) 2 2) [[1, 1], [1, 1]]) := matR_lit2 w2 #[.int .u8 1, .int .u8 1] #[.int .u8 1, .int .u8 1] [1, 1] [1, 1] rfl rfl 2 rfl rfl (by omega)
    have hbl : Below w2.heap.size w2 (((w2.alloc (.cells #[.int .u8 1, .int .u8 1] 5)).alloc (.cells #[.int .u8 1, .int .u8 1] 5)).alloc (.cells #[.slice (some ⟨w2.heap.size, 0, none⟩) 2 2, .slice (some ⟨w2.heap.size + 1, 0, none⟩) 2 2] 27)) := (((Below.refl _ _).alloc (Nat.le_refl _) _).alloc (by simp) _).alloc (by simp; omega) _
    have HBL := Lib.hid hbl
    clear hbl
    go_wp2_with fail
    refine (inverse_calls _ 2 (lit2 1 1 1 1) _ _ L3.out (by omega) (by omega)).mono ?_
    rintro e w3 ⟨(⟨x, rx, Fo2, rfl, hox, hi1, hi2⟩ | ⟨rfl, x, c, hc, hx, hk⟩), hb3⟩
    · exact absurd (inv_1111 Fo2 hi1) id
    · have HB3' : Hid (Below w2.heap.size w2 w3) := HBL.out.trans (hb3.mono HBL.out.size)
      have HB3 : Hid (Below w.heap.size w w3) := HB2.out.trans (HB3'.out.mono HB2.out.size)
      clear hb3 HBL hc hx hk
      go_wp2_with fail
      refine (rone_calls 2 (by omega) _).mono ?_
      rintro e w4 ⟨o, ro, rfl, hoo, hb4⟩
      have HOO := Lib.hid hoo
      have HB4' := Lib.hid hb4
      have HB4 : Hid (Below w.heap.size w w4) := HB3.out.trans (hb4.mono HB3.out.size)
      clear hoo hb4
      go_wp2_with fail
      refine (same_calls _ _ _ _ _ _ _ ((HOY.out.keep_below HB3'.out).keep_below HB4'.out).mat HOO.out.mat).mono ?_
      rintro e w5 ⟨rfl, n5, rfl⟩
      have e1 : decide (tab 2 2 (mulF 2 Fo (lit2 1 1 1 2)) = tab 2 2 oneF) = true := decide_eq_true (tab_congr _ _ _ _ fun i k hi hk => HI.out i k hi hk)
      rw [e1]
      clear e1
      have HB5 : Hid (Below w.heap.size w (w4.drewN n5)) := below_drewN HB4.out n5
      clear HB4 HB4' HB3 HB3' HOO HOY
      generalize w4.drewN n5 = w5 at *
      go_wp2_with fail
      refine (vander_calls 3 2 (by omega) (by omega) (by omega) (by omega) _).mono ?_
      rintro e w6 ⟨v, rvv, rfl, hov, hb6⟩
      have HOV := Lib.hid hov
      have HB6 : Hid (Below w.heap.size w w6) := HB5.out.trans (hb6.mono HB5.out.size)
      clear hov hb6
      have L4 : Hid (MatR (w6.heap.size ≤ ·) _ (.slice (some ⟨w6.heap.size + 1 + 1 + 1, 0, none⟩) 3 3) [[1, 0], [1, 1], [1, 2]]) := matR_lit3 w6 #[.int .u8 1, .int .u8 0] #[.int .u8 1, .int .u8 1] #[.int .u8 1, .int .u8 2] [1, 0] [1, 1] [1, 2] rfl rfl rfl 2 rfl rfl rfl (by omega)
      have hbl : Below w6.heap.size w6 ((((w6.alloc (.cells #[.int .u8 1, .int .u8 0] 5)).alloc (.cells #[.int .u8 1, .int .u8 1] 5)).alloc (.cells #[.int .u8 1, .int .u8 2] 5)).alloc (.cells #[.slice (some ⟨w6.heap.size, 0, none⟩) 2 2, .slice (some ⟨w6.heap.size + 1, 0, none⟩) 2 2, .slice (some ⟨w6.heap.size + 1 + 1, 0, none⟩) 2 2] 27)) := ((((Below.refl _ _).alloc (Nat.le_refl _) _).alloc (by simp) _).alloc (by simp; omega) _).alloc (by simp; omega) _
      have HBL := Lib.hid hbl
      clear hbl
      go_wp2_with fail
      refine (same_calls _ _ _ _ _ _ _ (HOV.out.keep_below HBL.out).mat L4.out).mono ?_
      rintro e w7 ⟨rfl, n7, rfl⟩
      have e2 : decide (tab 3 2 (fun i j => gpow (UInt8.ofNat i) j) = [[1, 0], [1, 1], [1, 2]]) = true := by decide +kernel
      rw [e2]
      clear e2
      have HB7 : Hid (Below w.heap.size w _) := below_drewN (HB6.out.trans (HBL.out.mono HB6.out.size)) n7
      clear HBL L4 HOV
      generalize World.drewN _ n7 = w7 at *
      go_wp2_with fail
      refine (msound_calls _ [] (fun _ => True) _ (MatR.nil _ _)).mono ?_
      rintro e w8 ⟨rfl, hb8⟩
      rw [show decide (Snd []) = false from rfl]
      go_wp2_with fail
      go_ret
      exact ⟨rfl, HB7.out.trans (hb8.mono HB7.out.size)⟩
  · exact absurd (ker_1112 x c hc hx hk) id
end Go.Proofs.Ytddmifbgbmjdaab
