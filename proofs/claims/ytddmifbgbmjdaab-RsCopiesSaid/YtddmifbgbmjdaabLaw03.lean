/- The fixed fact of the laws on the code. -/
import Derived.Test.YtddmifbgbmjdaabDecode
import Derived.Test.YtddmifbgbmjdaabLaw02
set_option linter.unusedVariables false
set_option linter.unusedSimpArgs false
namespace Go.Proofs.Ytddmifbgbmjdaab
open Go.RowKit

theorem at_calls (w : World) (ad : Addr) (n c k : Nat) (v : Value) (hv : ∃ A m c, v = .slice A m c) (hk : k < n) (h : w.cell? (ad.add k) = some v) :
    Calls Try.prog 52 #[.slice (some ad) n c, .int .i64 (k : Int)] w fun e w' => e = .returned v ∧ w = w' := by
  obtain ⟨A, m, c2, rfl⟩ := hv
  have hk' : (k : Int) < (n : Int) := by omega
  go_enter Try.func52, Try.ntmps52
  go_wp2_with fail
  go_ret
  exact ⟨rfl, rfl⟩
theorem dec2 {p : Nat → Nat} {S S' : Nat → Nat → UInt8} (hp : ∀ i, i < 2 → p i < 256) (hinj : ∀ i j, i < 2 → j < 2 → p i = p j → i = j) (h : ∀ i, i < 2 → ∀ b, atF 2 (fun j => S' j b) (UInt8.ofNat (p i)) = atF 2 (fun j => S j b) (UInt8.ofNat (p i))) : tab 2 2 S' = tab 2 2 S :=
  tab_congr _ _ _ _ fun i b hi _ => at_unique (by omega) p hp hinj (fun j => S' j b) (fun j => S j b) (fun i hi => h i hi b) i hi
def p32 (i : Nat) : Nat := 3 - i
set_option maxHeartbeats 8000000 in
set_option maxRecDepth 100000 in
theorem awake03_calls (w : World) : Calls Try.prog 30 #[] w fun e w' => e = .returned (.bool true) ∧ Below w.heap.size w w' := by
  have L1 : Hid (MatR (w.heap.size ≤ ·) _ (.slice (some ⟨w.heap.size + 1 + 1, 0, none⟩) 2 2) [[1, 2], [3, 4]]) := matR_lit2 w #[.int .u8 1, .int .u8 2] #[.int .u8 3, .int .u8 4] [1, 2] [3, 4] rfl rfl 2 rfl rfl (by omega)
  go_enter Try.func30, Try.ntmps30
  go_wp2_with fail
  refine (encode_calls 2 _ 2 2 (lit2 1 2 3 4) _ _ L1.out (by omega) (by omega) (by omega)).mono ?_
  rintro e w1 ⟨v, rv, rfl, ho, hb1⟩
  have HM1 := Lib.hid ho
  have HB1 : Hid (Below w.heap.size w w1) := ((((Below.refl _ _).alloc (Nat.le_refl _) _).alloc (by simp) _).alloc (by simp; omega) _).trans (hb1.mono (by simp; omega))
  obtain ⟨A, c, rfl⟩ := ho.shape
  obtain ⟨ad, rfl, hc0⟩ := rows_at2 ho 0 (by omega)
  obtain ⟨_, e2, hc2⟩ := rows_at2 ho 2 (by omega)
  cases e2
  obtain ⟨_, e3, hc3⟩ := rows_at2 ho 3 (by omega)
  cases e3
  have HR0 := Lib.hid (ho.rows.row 0 (by omega)).reads
  have HR2 := Lib.hid (ho.rows.row 2 (by omega)).reads
  have HR3 := Lib.hid (ho.rows.row 3 (by omega)).reads
  obtain ⟨A0, c0, e0, -, -⟩ := (ho.rows.row 0 (by omega)).reads
  obtain ⟨A2, c2, e2, -, -⟩ := (ho.rows.row 2 (by omega)).reads
  obtain ⟨A3, c3, e3, -, -⟩ := (ho.rows.row 3 (by omega)).reads
  rw [rowL_length] at e0 e2 e3
  rw [e0] at hc0 HR0
  rw [e2] at hc2 HR2
  rw [e3] at hc3 HR3
  rw [add_zero] at hc0
  clear e0 e2 e3 ho hb1 HM1 L1
  go_wp2_with fail
  refine (at_calls _ ad 4 c 3 _ ⟨_, _, _, rfl⟩ (by omega) hc3).mono ?_
  rintro e w2 ⟨rfl, rfl⟩
  go_wp2_with fail
  refine (at_calls _ ad 4 c 2 _ ⟨_, _, _, rfl⟩ (by omega) hc2).mono ?_
  rintro e w2 ⟨rfl, rfl⟩
  have HFr : Hid (FragR (w1.heap.size ≤ ·) (w1.alloc (.cells #[.int .i64 3, .slice A3 2 c3, .int .i64 2, .slice A2 2 c2] 51)) (.slice (some ⟨w1.heap.size, 0, none⟩) 2 2) [(3, .slice A3 2 c3), (2, .slice A2 2 c2)]) := Lib.hid (by
    refine ⟨_, _, rfl, by simp, ?_⟩
    refine Rd.row (P := fun k => w1.heap.size ≤ k) _ w1.heap.size _ 51 (0, 0) (heap_alloc_new w1 _) (Nat.le_refl _) 0 _ fun j u hu => ?_
    simpa [flat] using hu)
  have hbl : Below w1.heap.size w1 (w1.alloc (.cells #[.int .i64 3, .slice A3 2 c3, .int .i64 2, .slice A2 2 c2] 51)) := (Below.refl _ _).alloc (Nat.le_refl _) _
  have HBL := Lib.hid hbl
  clear hbl
  have HD3 : Hid (Bytes (fun _ => True) (w1.alloc (.cells #[.int .i64 3, .slice A3 2 c3, .int .i64 2, .slice A2 2 c2] 51)) (.slice A3 2 c3) (rowL 2 (fun b => atF 2 (fun t => lit2 1 2 3 4 t b) (UInt8.ofNat 3)))) := Lib.hid ((HR3.out.fr (Fr.of_below HBL.out _) fun _ h => h).mono fun _ _ => trivial)
  have HD2 : Hid (Bytes (fun _ => True) (w1.alloc (.cells #[.int .i64 3, .slice A3 2 c3, .int .i64 2, .slice A2 2 c2] 51)) (.slice A2 2 c2) (rowL 2 (fun b => atF 2 (fun t => lit2 1 2 3 4 t b) (UInt8.ofNat 2)))) := Lib.hid ((HR2.out.fr (Fr.of_below HBL.out _) fun _ h => h).mono fun _ _ => trivial)
  go_wp2_with fail
  refine (decode_calls 2 2 2 _ [(3, .slice A3 2 c3), (2, .slice A2 2 c2)] p32 (fun i b => atF 2 (fun t => lit2 1 2 3 4 t b) (UInt8.ofNat (p32 i))) _ (fun _ => True) _ HFr.out (by omega) (by omega) (by omega) rfl ?dp (fun i hi => by unfold p32; omega) (fun i j hi hj e => by unfold p32 at e; omega) ?dd).mono ?_
  case dp =>
    intro i hi
    match i with
    | 0 => rfl
    | 1 => rfl
    | n + 2 => exact absurd hi (by simp only [List.length_cons, List.length_nil]; omega)
  case dd =>
    intro i hi
    match i with
    | 0 => exact HD3.out
    | 1 => exact HD2.out
    | n + 2 => exact absurd hi (by simp only [List.length_cons, List.length_nil]; omega)
  rintro e w3 ⟨x, rx, S', rfl, hx, hS, hb3⟩
  have HX3 : Hid (MatR (fun _ => True) w3 x (tab 2 2 (lit2 1 2 3 4))) := Lib.hid (by
    have := hx.matr
    rw [dec2 (p := p32) (S := lit2 1 2 3 4) (fun i hi => by unfold p32; omega) (fun i j hi hj e => by unfold p32 at e; omega) hS] at this
    exact this.mono fun _ _ => trivial)
  have HB13 : Hid (Below w1.heap.size w1 w3) := HBL.out.trans (hb3.mono HBL.out.size)
  have HB3 : Hid (Below w.heap.size w w3) := HB1.out.trans (HB13.out.mono HB1.out.size)
  have hc03 : w3.cell? ad = some (.slice A0 2 c0) := by rw [HB13.out.cell (World.block_lt_of_cell? _ _ hc0)]; exact hc0
  have HR03 : Hid (Bytes (fun _ => True) w3 (.slice A0 2 c0) [1, 2]) := Lib.hid (by
    have h := (HR0.out.fr (Fr.of_below HB13.out _) fun _ h => h).mono (Q := fun _ => True) fun _ _ => trivial
    rw [rowL_congr 2 _ (fun b => lit2 1 2 3 4 0 b) (fun b _ => atF_at 2 (fun t => lit2 1 2 3 4 t b) 0 (by omega) (by omega))] at h
    exact h)
  obtain ⟨Ax, cx, rfl⟩ := hx.shape
  clear hx hS hb3 HB1 HB13 HBL HFr HD2 HD3 HR0 HR2 HR3 hc0 hc2 hc3
  go_wp2_with fail
  refine (code_bad 250 6 _ (by omega) (by decide)).mono ?_
  rintro e w4 ⟨rfl, rfl⟩
  have k1 := conv_str HR03.out
  have k4 : (textOf [1, 2]).toList = [1, 2] := textOf_list _
  have L2 : Hid (MatR (w3.heap.size ≤ ·) _ (.slice (some ⟨w3.heap.size + 1 + 1, 0, none⟩) 2 2) [[1, 2], [3, 4]]) := matR_lit2 w3 #[.int .u8 1, .int .u8 2] #[.int .u8 3, .int .u8 4] [1, 2] [3, 4] rfl rfl 2 rfl rfl (by omega)
  have hbl : Below w3.heap.size w3 (((w3.alloc (.cells #[.int .u8 1, .int .u8 2] 5)).alloc (.cells #[.int .u8 3, .int .u8 4] 5)).alloc (.cells #[.slice (some ⟨w3.heap.size, 0, none⟩) 2 2, .slice (some ⟨w3.heap.size + 1, 0, none⟩) 2 2] 27)) := (((Below.refl _ _).alloc (Nat.le_refl _) _).alloc (by simp) _).alloc (by simp; omega) _
  have HBL := Lib.hid hbl
  have HX4 := Lib.hid (HX3.out.below hbl)
  clear hbl HX3
  go_wp2_with fail
  refine (same_calls _ _ _ _ _ _ _ HX4.out L2.out).mono ?_
  rintro e w5 ⟨rfl, n5, rfl⟩
  have e1 : decide (tab 2 2 (lit2 1 2 3 4) = [[1, 2], [3, 4]]) = true := decide_eq_true rfl
  rw [e1]
  go_wp2_with fail
  go_ret
  exact ⟨rfl, below_drewN (HB3.out.trans (HBL.out.mono HB3.out.size)) n5⟩
end Go.Proofs.Ytddmifbgbmjdaab
