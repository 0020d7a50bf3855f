/- The table: how it is made, and what it answers. -/
import Derived.Test.YtddmifbgbmjdaabGfB
set_option linter.unusedVariables false
set_option linter.unusedSimpArgs false
namespace Go.Proofs.Ytddmifbgbmjdaab
open Go.RowKit

theorem wpList_build_as {P : Program} {ops : Array Oper} {rest : List Oper} {o : Oper} {a : Act} {w : World} {Q : Exit → Act → World → Prop} (cells : Array Value) (hg : o.guard = none) (t : TypeId) (ho : o.op = .build t #[])
    (hf : P.built t [] = some cells) (h : wpList P ops Q rest (a.put o.dst (.agg cells)) w) : wpList P ops Q (o :: rest) a w := by
  have e : ((#[] : Array (Nat × Operand)).map fun (i, x) => (i, a.eval x)).toList = [] := by simp
  exact wpList_build hg t #[] ho (by rw [e, hf]; rfl) (by rw [e, hf]; exact h)
theorem tab_zero : ∃ Z : Array Value, Try.prog.built 82 [] = some Z ∧ Z.size = 766 := by
  have h1 : ((Try.prog.built 82 []).map (·.size)) = some 766 := by kernel_rfl
  rcases hb : Try.prog.built 82 [] with _ | Z
  · rw [hb] at h1; cases h1
  · rw [hb] at h1
    exact ⟨Z, rfl, by simpa using h1⟩

/-- The first n powers lie in the block, twice, and their logarithms. -/
structure TabTo (cs : Array Value) (n : Nat) : Prop where
  size : cs.size = 766
  lo : ∀ i, i < n → cs[i]? = some (.int .u8 ((expN i : Nat) : Int))
  hi : ∀ i, i < n → cs[i + 255]? = some (.int .u8 ((expN i : Nat) : Int))
  log : ∀ i, i < n → cs[510 + expN i]? = some (.int .i64 (i : Int))
theorem TabTo.step {cs : Array Value} {n : Nat} (h : TabTo cs n) (hn : n < 255) :
    TabTo (((cs.setIfInBounds n (.int .u8 ((expN n : Nat) : Int))).setIfInBounds (n + 255) (.int .u8 ((expN n : Nat) : Int))).setIfInBounds (510 + expN n) (.int .i64 (n : Int))) (n + 1) := by
  have hs := h.size
  have hl := expN_lt n
  refine ⟨by simp [hs], fun i hi => ?_, fun i hi => ?_, fun i hi => ?_⟩
  · rw [Array.getElem?_setIfInBounds_ne (by omega), Array.getElem?_setIfInBounds_ne (by omega)]
    by_cases e : i = n
    · subst e; simp [Array.getElem?_setIfInBounds, hs]; omega
    · rw [Array.getElem?_setIfInBounds_ne (by omega)]; exact h.lo i (by omega)
  · rw [Array.getElem?_setIfInBounds_ne (by omega)]
    by_cases e : i = n
    · subst e; simp [Array.getElem?_setIfInBounds, hs]; omega
    · rw [Array.getElem?_setIfInBounds_ne (by omega), Array.getElem?_setIfInBounds_ne (by omega)]; exact h.hi i (by omega)
  · by_cases e : i = n
    · subst e; simp [Array.getElem?_setIfInBounds, hs]; omega
    · have : expN i ≠ expN n := fun h => e (exp_inj (by omega) hn h)
      have := expN_lt i
      rw [Array.getElem?_setIfInBounds_ne (by omega), Array.getElem?_setIfInBounds_ne (by omega), Array.getElem?_setIfInBounds_ne (by omega)]; exact h.log i (by omega)
/-- The table lies in a block. -/
def TabAt (w : World) (g : Nat) : Prop := ∃ cs, Bk w g 82 cs ∧ TabTo cs 255
theorem TabAt.fr {P : Nat → Prop} {w w' : World} {g : Nat} (h : TabAt w g) (hf : Fr P w w') (hp : P g) : TabAt w' g := by
  obtain ⟨cs, hb, ht⟩ := h
  exact ⟨cs, hb.fr hf hp, ht⟩
theorem TabAt.lt {w : World} {g : Nat} (h : TabAt w g) : g < w.heap.size := by
  obtain ⟨cs, hb, _⟩ := h
  exact hb.lt
theorem TabAt.below {B : Nat} {w w' : World} {g : Nat} (h : TabAt w g) (hf : Below B w w') (hp : g < B) : TabAt w' g := by
  obtain ⟨cs, hb, ht⟩ := h
  exact ⟨cs, hb.below hf hp, ht⟩
theorem TabAt.pow {w : World} {g : Nat} (h : TabAt w g) (i : Nat) (hi : i < 510) : w.cell? ⟨g, i, none⟩ = some (.int .u8 ((gpow 2 i).toNat : Int)) := by
  obtain ⟨cs, hb, ht⟩ := h
  rw [hb.cell]
  by_cases h : i < 255
  · rw [ht.lo i h, expN_eq]
  · have := ht.hi (i - 255) (by omega)
    rw [show i - 255 + 255 = i from by omega] at this
    rw [this, expN_eq, ← gpow2_mod i, show i % 255 = i - 255 from by omega]
theorem TabAt.log {w : World} {g : Nat} (h : TabAt w g) (a : UInt8) (ha : a ≠ 0) : w.cell? ⟨g, 510 + a.toNat, none⟩ = some (.int .i64 (glog a : Int)) := by
  obtain ⟨cs, hb, ht⟩ := h
  rw [hb.cell]
  have := ht.log (glog a) (glog_lt a)
  rw [expN_eq, glog_exp ha] at this
  exact this

set_option maxHeartbeats 2000000 in
set_option maxRecDepth 10000 in
theorem made_calls (w : World) : Calls Try.prog 41 #[] w fun e w' => e = .returned (.pointer (some ⟨w.heap.size, 0, none⟩)) ∧ TabAt w' w.heap.size ∧ Below w.heap.size w w' := by
  obtain ⟨Z, hZ, hs⟩ := tab_zero
  have HZ := Lib.hid hZ
  have Hs := Lib.hid hs
  clear hZ hs
  go_enter Try.func41, Try.ntmps41
  go_wp2_with (refine wpList_build_as Z rfl _ rfl HZ.out ?_)
  go_loopw [2, 3, 6] (fun x y i wr => ∃ (n : Nat) (cs : Array Value), n ≤ 255 ∧ i = .int .i64 n ∧ x = .int .u8 ((expN n : Nat) : Int) ∧ Hid (Bk wr w.heap.size 82 cs) ∧ Hid (TabTo cs n) ∧ Hid (Below w.heap.size w wr)) (fun _ _ i _ => 255 - (intOf i).toNat)
  case atStart => exact ⟨0, Z, by omega, rfl, rfl, Bk.new _ _ _, ⟨Hs.out, fun i h => by omega, fun i h => by omega, fun i h => by omega⟩, (Below.refl _ _).alloc (Nat.le_refl _) _⟩
  case round =>
    obtain ⟨n, cs, hn, rfl, rfl, B, T, hb⟩ := hrel
    by_cases hlt : n < 255
    · have hl := expN_lt n
      have hsz := T.out.size
      have hc1 : wr.cell? ⟨w.heap.size, n, none⟩ = some (cs[n]'(by omega)) := by rw [B.out.cell, Array.getElem?_eq_getElem (by omega)]
      have hc2 : wr.cell? ⟨w.heap.size, n + 255, none⟩ = some (cs[n + 255]'(by omega)) := by rw [B.out.cell, Array.getElem?_eq_getElem (by omega)]
      have hc3 : wr.cell? ⟨w.heap.size, 510 + expN n, none⟩ = some (cs[510 + expN n]'(by omega)) := by rw [B.out.cell, Array.getElem?_eq_getElem (by omega)]
      have hf1 := B.out.frozen n
      have hf2 := B.out.frozen (n + 255)
      have hf3 := B.out.frozen (510 + expN n)
      generalize cs[n]'(by omega) = q1 at *
      generalize cs[n + 255]'(by omega) = q2 at *
      generalize cs[510 + expN n]'(by omega) = q3 at *
      clear hsz
      go_wp2_with fail
      go_region
      have B2 : Hid (Bk _ _ _ _) := ((B.out.set_ n (.int .u8 ((expN n : Nat) : Int))).set_ (n + 255) (.int .u8 ((expN n : Nat) : Int))).set_ (510 + expN n) (.int .i64 (n : Int))
      have T2 := Lib.hid (T.out.step hlt)
      have hb2 : Hid (Below _ _ _) := ((hb.out.setCell (p := ⟨w.heap.size, n, none⟩) (Nat.le_refl _) (.int .u8 ((expN n : Nat) : Int))).setCell (p := ⟨w.heap.size, n + 255, none⟩) (Nat.le_refl _) (.int .u8 ((expN n : Nat) : Int))).setCell (p := ⟨w.heap.size, 510 + expN n, none⟩) (Nat.le_refl _) (.int .i64 (n : Int))
      have Hn : Hid (expN (n + 1) = xtN (expN n)) := rfl
      go_wp2_with fail
      refine (twice_calls _ hl _).mono ?_
      rintro en w' ⟨rfl, rfl⟩
      go_wp2_with fail
      go_roundw
      case rel => exact ⟨n + 1, _, by omega, by go_num, by rw [Hn.out], B2.out, T2, below_drewN hb2.out 1⟩
      case measure => simp [intOf]; omega
    · obtain rfl : n = 255 := by omega
      go_wp2_with fail
      go_ret
      exact ⟨rfl, ⟨cs, B.out, T.out⟩, hb.out⟩

set_option maxHeartbeats 1000000 in
theorem tmul8 (g : Nat) (a b : UInt8) (w : World) (h : TabAt w g) :
    Calls Try.prog 58 #[.pointer (some ⟨g, 0, none⟩), .int .u8 (a.toNat : Int), .int .u8 (b.toNat : Int)] w fun e w' => e = .returned (.int .u8 ((gmul a b).toNat : Int)) ∧ Drawn w w' := by
  by_cases ha : a = 0
  · subst ha
    have H : Hid (gmul 0 b = 0) := zero_gmul b
    go_enter Try.func58, Try.ntmps58
    go_wp2_with fail
    go_ret
    exact ⟨by rw [H.out]; rfl, Drawn.refl w⟩
  · have h1 : ((a.toNat : Int) == 0) = false := by rw [u8_zero, decide_eq_false ha]
    by_cases hb : b = 0
    · subst hb
      have H : Hid (gmul a 0 = 0) := gmul_zero a
      clear ha
      go_enter Try.func58, Try.ntmps58
      go_wp2_with fail
      go_ret
      exact ⟨by rw [H.out]; rfl, Drawn.refl w⟩
    · have h2 : ((b.toNat : Int) == 0) = false := by rw [u8_zero, decide_eq_false hb]
      have hla := h.log a ha
      have hlb := h.log b hb
      have hga := glog_lt a
      have hgb := glog_lt b
      have hp := h.pow (glog a + glog b) (by omega)
      have hr : gpow 2 (glog a + glog b) = gmul a b := by rw [gpow_add, glog_exp ha, glog_exp hb]
      rw [hr] at hp
      clear ha hb hr h
      have hal := a.toNat_lt
      have hbl := b.toNat_lt
      generalize glog a = la at *
      generalize glog b = lb at *
      generalize (gmul a b).toNat = q at *
      generalize a.toNat = a at *
      generalize b.toNat = b at *
      go_enter Try.func58, Try.ntmps58
      go_wp2_with fail
      go_quiet (fail)
      go_wp2_with fail
      go_ret
      exact ⟨rfl, (Drawn.refl w).next _⟩
set_option maxHeartbeats 1000000 in
theorem tinv8 (g : Nat) (a : UInt8) (w : World) (h : TabAt w g) :
    Calls Try.prog 61 #[.pointer (some ⟨g, 0, none⟩), .int .u8 (a.toNat : Int)] w fun e w' => e = .returned (.int .u8 ((ginv a).toNat : Int)) ∧ Drawn w w' := by
  by_cases ha : a = 0
  · subst ha
    have H : Hid (ginv 0 = 0) := ginv_zero
    go_enter Try.func61, Try.ntmps61
    go_wp2_with fail
    go_ret
    exact ⟨by rw [H.out]; rfl, Drawn.refl w⟩
  · have h1 : ((a.toNat : Int) == 0) = false := by rw [u8_zero, decide_eq_false ha]
    have hla := h.log a ha
    have hga := glog_lt a
    have hp := h.pow (255 - glog a) (by omega)
    have hr : gpow 2 (255 - glog a) = ginv a := by rw [← ginv_pow _ (by omega), glog_exp ha]
    rw [hr] at hp
    clear ha hr h
    have hal := a.toNat_lt
    generalize glog a = la at *
    generalize (ginv a).toNat = q at *
    generalize a.toNat = a at *
    have hal2 : (a : Int) < 256 := by omega
    have hal3 : (0 : Int) ≤ (a : Int) := by omega
    have hs1 : IntKind.i64.wrap ((255 : Int) - (la : Int)) = 255 - (la : Int) := by rw [IntKind.wrap_i64]; omega
    have hs2 : (0 : Int) ≤ 255 - (la : Int) := by omega
    have hs3 : ((255 : Int) - (la : Int)).toNat = 255 - la := by omega
    go_enter Try.func61, Try.ntmps61
    go_wp2_with fail
    go_quiet (fail)
    go_wp2_with fail
    go_ret
    exact ⟨rfl, (Drawn.refl w).next _⟩
set_option maxHeartbeats 400000 in
theorem tmul_nil (a b : UInt8) (w : World) : Calls Try.prog 58 #[.pointer none, .int .u8 (a.toNat : Int), .int .u8 (b.toNat : Int)] w fun e w' => e = .returned (.int .u8 0) ∧ w = w' := by
  go_enter Try.func58, Try.ntmps58
  go_wp2_with fail
  go_ret
  exact ⟨rfl, rfl⟩
set_option maxHeartbeats 400000 in
theorem tinv_nil (a : UInt8) (w : World) : Calls Try.prog 61 #[.pointer none, .int .u8 (a.toNat : Int)] w fun e w' => e = .returned (.int .u8 0) ∧ w = w' := by
  go_enter Try.func61, Try.ntmps61
  go_wp2_with fail
  go_ret
  exact ⟨rfl, rfl⟩
end Go.Proofs.Ytddmifbgbmjdaab
