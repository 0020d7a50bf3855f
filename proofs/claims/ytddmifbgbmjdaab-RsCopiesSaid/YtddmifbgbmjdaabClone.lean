/- slices.Clone of bytes. -/
import Derived.Test.YtddmifbgbmjdaabMem
import Derived.Test.YtddmifbgbmjdaabChecked
import Derived.Lib.SliceRun
set_option linter.unusedVariables false
set_option linter.unusedSimpArgs false
namespace Go.Proofs.Ytddmifbgbmjdaab
open Go.RowKit

theorem Sl.nil_of {α : Type} {f : α → Value} {P : Nat → Prop} {w : World} {n c : Nat} {l : List α} (h : Sl f P w (.slice none n c) l) : l = [] := by
  obtain ⟨A, c', e, _, hc⟩ := h
  simp only [Value.slice.injEq] at e
  obtain ⟨rfl, -, -⟩ := e
  cases l with
  | nil => rfl
  | cons a l => obtain ⟨ad, e, _⟩ := hc 0 (f a) (by simp); cases e

@[go_sem] theorem eql_nil_bytes (w : World) (a : Option Addr) (n c : Nat) : (Go.binOp .eql 27 (.slice a n c) (.slice none 0 0)).run Try.prog w = .ok (.bool a.isNone) w := Go.Lib.run_eql_slice_nil w _ _ a n c 0 0 Try.underlying27
theorem info_u8c : (Try.prog.info? 5).map (fun i => (i.zero, i.size, i.bytes)) = some (some (.int .u8 0), 1, 1) := by kernel_rfl
set_option maxHeartbeats 1000000 in
theorem cloneb_calls (v : Value) (l : List UInt8) (P : Nat → Prop) (w : World) (hv : Bytes P w v l) (hl : l.length ≤ 1000000000000) :
    Calls Try.prog 46 #[v] w fun e w' => ∃ v', e = .returned v' ∧ OwnB w' w.heap.size 5 v' l ∧ Below w.heap.size w w' := by
  have H := Lib.hid hv
  obtain ⟨A, cp, rfl, hl1, hc⟩ := hv
  clear hc
  cases A with
  | none =>
    obtain rfl := H.out.nil_of
    go_enter Try.func46, Try.ntmps46
    go_wp2_with fail
    go_ret
    exact ⟨_, rfl, Own.none_ _ _ _ _, Below.refl _ _⟩
  | some a =>
    go_enter Try.func46, Try.ntmps46
    go_wp2_with (at_builtin; refine wpList_append_sl (f := u8v) (R := P) (fun _ => rfl) w.heap.size _ _ _ 5 (.int .u8 0) 1 rfl Try.underlying27 info_u8c rfl (by omega) (.slice (some ⟨w.heap.size, 0, none⟩) 0 0) (.slice (some a) l.length cp) [] l rfl rfl (Own.empty _ _ _ _ (Nat.le_refl _)) ?c1 ?c2 ?c3 rfl ?_)
    case c1 => exact H.out.fr ((Fr.refl _ _).alloc _) (fun k hk => hk)
    case c2 => simp
    case c3 => simp; omega
    intro v1 w2 ho2 hf2 hat2
    obtain ⟨A2, n2, cp2, rfl⟩ := ho2.shape
    have Ho := Lib.hid ho2
    have Hb : Hid (Below w.heap.size w w2) := Lib.hid (fr_below ((Below.refl _ _).alloc (Nat.le_refl _) _) hf2 (fun k hk => by simp [Value.ownBlock] at hk; omega))
    clear ho2 hf2 hat2
    go_wp2_with fail
    go_ret
    exact ⟨_, rfl, Ho.out, Hb.out⟩
end Go.Proofs.Ytddmifbgbmjdaab
