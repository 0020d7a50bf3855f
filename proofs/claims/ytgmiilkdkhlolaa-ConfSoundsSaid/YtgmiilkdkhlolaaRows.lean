/-
  No cell of these rows narrows 'for every input' (looked for: loops, veiled, ifaces, maps, wideKeys, modest, calm, conditions, laid).
  DERIVED. THE GIVEN ROWS OF THIS SEAT. 7 by the template 'for every input the law returns true; each argument reads behind the call as it read before'; 0 by the template 'total and deterministic' (their statements: YtgmiilkdkhlolaaTotals.lean).
  GIVEN WITH THE SEED: the statements are not yours to turn. If you find one false, say at which input.
  Laid BY PROGRAM, IN A SANDBOX (cutbox-rows.mjs): the forced cells as the released guide's own fill.sh prints them over the translation 844d1cbe8256bd0a… (all of the seat's roots in one cut). By AI agents, Wed Nov 11 2026. No macro, syntax, notation, axiom, sorry.
-/
import Derived.Test.YtgmiilkdkhlolaaChecked
import GoSem.Claim
import GoSem.ClaimJoined
import GoSem.ClaimMapViews
import Derived.JoinedTies
import Derived.KernelRfl
namespace Go.Proofs.Ytgmiilkdkhlolaa
/- THE CELL 'sum', in the pinned program and in every row, IS THE sha256 OF THE DUMP (.gsa) THAT YtgmiilkdkhlolaaProg.lean LOADS. Nothing in Lean hashes anything: it is a label: what it is worth is what the hold of that sum in a sandbox is worth. -/
noncomputable def Try.pinned : Pinned := { name := "ytgmiilkdkhlolaa", sum := "844d1cbe8256bd0ae03e4d491535f2fbd7f9aa1876080b8d6cb3c74f3c07b013", checked := Try.checked }
namespace Rows
def none {H : Type} : Left H := { results := [], args := [] }

/-- 'deadeyelaw11.ConfSounds': WHATEVER THE INPUT: true; the input reads as it did. -/
def confSoundsSpec : ChangeSpec := { name := "confSounds", fn := fun _ => fun
  | [d1, d2, d3] => { results := [.lit (.bool true)], args := [d1, d2, d3] }
  | _ => none }
def confSoundsRow : OpenClaim := { program := "ytgmiilkdkhlolaa", sum := "844d1cbe8256bd0ae03e4d491535f2fbd7f9aa1876080b8d6cb3c74f3c07b013", func := "deadeye/deadeyelaw11.ConfSounds", spec := "confSounds", apart := false }
def ConfSoundsSaid : Prop := confSoundsRow.holds Try.pinned (OpenSpec.ofChange confSoundsSpec)

/-- ITS FALSE NEIGHBOUR: 'it returns false'. Refute it at one input. -/
def confSoundsWrong : ChangeSpec := { name := "confSounds", fn := fun _ => fun
  | [d1, d2, d3] => { results := [.lit (.bool false)], args := [d1, d2, d3] }
  | _ => none }
def ConfSoundsWrongFalsely : Prop := confSoundsRow.holds Try.pinned (OpenSpec.ofChange confSoundsWrong)

/-- 'deadeyelaw11.ConfFirst': WHATEVER THE INPUT: true; the input reads as it did. -/
def confFirstSpec : ChangeSpec := { name := "confFirst", fn := fun _ => fun
  | [d1, d2] => { results := [.lit (.bool true)], args := [d1, d2] }
  | _ => none }
def confFirstRow : OpenClaim := { program := "ytgmiilkdkhlolaa", sum := "844d1cbe8256bd0ae03e4d491535f2fbd7f9aa1876080b8d6cb3c74f3c07b013", func := "deadeye/deadeyelaw11.ConfFirst", spec := "confFirst", apart := false }
def ConfFirstSaid : Prop := confFirstRow.holds Try.pinned (OpenSpec.ofChange confFirstSpec)

/-- ITS FALSE NEIGHBOUR: 'it returns false'. Refute it at one input. -/
def confFirstWrong : ChangeSpec := { name := "confFirst", fn := fun _ => fun
  | [d1, d2] => { results := [.lit (.bool false)], args := [d1, d2] }
  | _ => none }
def ConfFirstWrongFalsely : Prop := confFirstRow.holds Try.pinned (OpenSpec.ofChange confFirstWrong)

/-- 'deadeyelaw11.ConfChain': WHATEVER THE INPUT: true; the input reads as it did. -/
def confChainSpec : ChangeSpec := { name := "confChain", fn := fun _ => fun
  | [d] => { results := [.lit (.bool true)], args := [d] }
  | _ => none }
def confChainRow : OpenClaim := { program := "ytgmiilkdkhlolaa", sum := "844d1cbe8256bd0ae03e4d491535f2fbd7f9aa1876080b8d6cb3c74f3c07b013", func := "deadeye/deadeyelaw11.ConfChain", spec := "confChain", apart := false }
def ConfChainSaid : Prop := confChainRow.holds Try.pinned (OpenSpec.ofChange confChainSpec)

/-- ITS FALSE NEIGHBOUR: 'it returns false'. Refute it at one input. -/
def confChainWrong : ChangeSpec := { name := "confChain", fn := fun _ => fun
  | [d] => { results := [.lit (.bool false)], args := [d] }
  | _ => none }
def ConfChainWrongFalsely : Prop := confChainRow.holds Try.pinned (OpenSpec.ofChange confChainWrong)

/-- 'deadeyelaw11.ConfBeside': WHATEVER THE INPUT: true; the input reads as it did. -/
def confBesideSpec : ChangeSpec := { name := "confBeside", fn := fun _ => fun
  | [d1, d2] => { results := [.lit (.bool true)], args := [d1, d2] }
  | _ => none }
def confBesideRow : OpenClaim := { program := "ytgmiilkdkhlolaa", sum := "844d1cbe8256bd0ae03e4d491535f2fbd7f9aa1876080b8d6cb3c74f3c07b013", func := "deadeye/deadeyelaw11.ConfBeside", spec := "confBeside", apart := false }
def ConfBesideSaid : Prop := confBesideRow.holds Try.pinned (OpenSpec.ofChange confBesideSpec)

/-- ITS FALSE NEIGHBOUR: 'it returns false'. Refute it at one input. -/
def confBesideWrong : ChangeSpec := { name := "confBeside", fn := fun _ => fun
  | [d1, d2] => { results := [.lit (.bool false)], args := [d1, d2] }
  | _ => none }
def ConfBesideWrongFalsely : Prop := confBesideRow.holds Try.pinned (OpenSpec.ofChange confBesideWrong)

/-- 'deadeyelaw19.ClientEnds': WHATEVER THE INPUT: true; the input reads as it did. -/
def clientEndsSpec : ChangeSpec := { name := "clientEnds", fn := fun _ => fun
  | [d1, d2, d3, d4, d5] => { results := [.lit (.bool true)], args := [d1, d2, d3, d4, d5] }
  | _ => none }
def clientEndsRow : OpenClaim := { program := "ytgmiilkdkhlolaa", sum := "844d1cbe8256bd0ae03e4d491535f2fbd7f9aa1876080b8d6cb3c74f3c07b013", func := "deadeye/deadeyelaw19.ClientEnds", spec := "clientEnds", unfollowed := true, recurses := true, apart := false }
def ClientEndsSaid : Prop := clientEndsRow.holds Try.pinned (OpenSpec.ofChange clientEndsSpec)

/-- ITS FALSE NEIGHBOUR: 'it returns false'. Refute it at one input. -/
def clientEndsWrong : ChangeSpec := { name := "clientEnds", fn := fun _ => fun
  | [d1, d2, d3, d4, d5] => { results := [.lit (.bool false)], args := [d1, d2, d3, d4, d5] }
  | _ => none }
def ClientEndsWrongFalsely : Prop := clientEndsRow.holds Try.pinned (OpenSpec.ofChange clientEndsWrong)

/-- 'deadeyelaw19.ClientNums': WHATEVER THE INPUT: true; the input reads as it did. -/
def clientNumsSpec : ChangeSpec := { name := "clientNums", fn := fun _ => fun
  | [d1, d2, d3] => { results := [.lit (.bool true)], args := [d1, d2, d3] }
  | _ => none }
def clientNumsRow : OpenClaim := { program := "ytgmiilkdkhlolaa", sum := "844d1cbe8256bd0ae03e4d491535f2fbd7f9aa1876080b8d6cb3c74f3c07b013", func := "deadeye/deadeyelaw19.ClientNums", spec := "clientNums", unfollowed := true, recurses := true, apart := false }
def ClientNumsSaid : Prop := clientNumsRow.holds Try.pinned (OpenSpec.ofChange clientNumsSpec)

/-- ITS FALSE NEIGHBOUR: 'it returns false'. Refute it at one input. -/
def clientNumsWrong : ChangeSpec := { name := "clientNums", fn := fun _ => fun
  | [d1, d2, d3] => { results := [.lit (.bool false)], args := [d1, d2, d3] }
  | _ => none }
def ClientNumsWrongFalsely : Prop := clientNumsRow.holds Try.pinned (OpenSpec.ofChange clientNumsWrong)

/-- 'deadeyelaw19.ClientNone': WHATEVER THE INPUT: true; the input reads as it did. -/
def clientNoneSpec : ChangeSpec := { name := "clientNone", fn := fun _ => fun
  | [d1, d2] => { results := [.lit (.bool true)], args := [d1, d2] }
  | _ => none }
def clientNoneRow : OpenClaim := { program := "ytgmiilkdkhlolaa", sum := "844d1cbe8256bd0ae03e4d491535f2fbd7f9aa1876080b8d6cb3c74f3c07b013", func := "deadeye/deadeyelaw19.ClientNone", spec := "clientNone", unfollowed := true, recurses := true, apart := false }
def ClientNoneSaid : Prop := clientNoneRow.holds Try.pinned (OpenSpec.ofChange clientNoneSpec)

/-- ITS FALSE NEIGHBOUR: 'it returns false'. Refute it at one input. -/
def clientNoneWrong : ChangeSpec := { name := "clientNone", fn := fun _ => fun
  | [d1, d2] => { results := [.lit (.bool false)], args := [d1, d2] }
  | _ => none }
def ClientNoneWrongFalsely : Prop := clientNoneRow.holds Try.pinned (OpenSpec.ofChange clientNoneWrong)

/- THE SECOND FORM. 'bulk': how many values and letters a reading holds, each counted each time it is reached (what is shared counts as often as it is met; a slice's spare places count too). A statement '..UptoSaid' is the law's where the arguments, and the package variables that the reading takes, are together of bulk at most 1048576: NARROWER than '..Said'. Prove '..Said' where nothing that the law and all that it calls make is longer than what came in: it says more and counts as full. Else prove '..UptoSaid'. A law counts once. -/
mutual
def uptoBulk {H : Type} : DataW H → Nat
  | .lit (.string bytes) => bytes.length + 1
  | .lit _ => 1
  | .nil => 1
  | .ptr d => uptoBulk d + 1
  | .slice elems spare => uptoBulkAll elems + uptoBulkAll spare + 1
  | .agg parts => uptoBulkAll parts + 1
  | .iface _ d => uptoBulk d + 1
  | .map entries => uptoBulkEntries entries + 1
  | .held _ => 1
def uptoBulkAll {H : Type} : List (DataW H) → Nat
  | [] => 0
  | d :: r => uptoBulk d + uptoBulkAll r
def uptoBulkEntries {H : Type} : List (Lit × DataW H) → Nat
  | [] => 0
  | x :: r => uptoBulkEntry x + uptoBulkEntries r
def uptoBulkEntry {H : Type} : Lit × DataW H → Nat
  | (.string bytes, d) => bytes.length + uptoBulk d + 1
  | (_, d) => uptoBulk d + 1
 end
def uptoSmall : (H : Type) → List (DataW H) → Bool := fun _ ds => decide (uptoBulkAll ds ≤ 1048576)
def OpenSpec.upto (s : _root_.Go.ChangeSpec) : _root_.Go.OpenSpec := { _root_.Go.OpenSpec.ofChange s with cond := some uptoSmall }

/-- 'deadeyelaw11.ConfSounds', WHERE WHAT IT READS IS OF BULK AT MOST 1048576: true; the input reads as it did. -/
def confSoundsUptoRow : OpenClaim := { program := "ytgmiilkdkhlolaa", sum := "844d1cbe8256bd0ae03e4d491535f2fbd7f9aa1876080b8d6cb3c74f3c07b013", func := "deadeye/deadeyelaw11.ConfSounds", spec := "confSounds", apart := false, narrowed := true }
def ConfSoundsUptoSaid : Prop := confSoundsUptoRow.holds Try.pinned (OpenSpec.upto confSoundsSpec)

/-- 'deadeyelaw11.ConfFirst', WHERE WHAT IT READS IS OF BULK AT MOST 1048576: true; the input reads as it did. -/
def confFirstUptoRow : OpenClaim := { program := "ytgmiilkdkhlolaa", sum := "844d1cbe8256bd0ae03e4d491535f2fbd7f9aa1876080b8d6cb3c74f3c07b013", func := "deadeye/deadeyelaw11.ConfFirst", spec := "confFirst", apart := false, narrowed := true }
def ConfFirstUptoSaid : Prop := confFirstUptoRow.holds Try.pinned (OpenSpec.upto confFirstSpec)

/-- 'deadeyelaw11.ConfChain', WHERE WHAT IT READS IS OF BULK AT MOST 1048576: true; the input reads as it did. -/
def confChainUptoRow : OpenClaim := { program := "ytgmiilkdkhlolaa", sum := "844d1cbe8256bd0ae03e4d491535f2fbd7f9aa1876080b8d6cb3c74f3c07b013", func := "deadeye/deadeyelaw11.ConfChain", spec := "confChain", apart := false, narrowed := true }
def ConfChainUptoSaid : Prop := confChainUptoRow.holds Try.pinned (OpenSpec.upto confChainSpec)

/-- 'deadeyelaw11.ConfBeside', WHERE WHAT IT READS IS OF BULK AT MOST 1048576: true; the input reads as it did. -/
def confBesideUptoRow : OpenClaim := { program := "ytgmiilkdkhlolaa", sum := "844d1cbe8256bd0ae03e4d491535f2fbd7f9aa1876080b8d6cb3c74f3c07b013", func := "deadeye/deadeyelaw11.ConfBeside", spec := "confBeside", apart := false, narrowed := true }
def ConfBesideUptoSaid : Prop := confBesideUptoRow.holds Try.pinned (OpenSpec.upto confBesideSpec)

/-- 'deadeyelaw19.ClientEnds', WHERE WHAT IT READS IS OF BULK AT MOST 1048576: true; the input reads as it did. -/
def clientEndsUptoRow : OpenClaim := { program := "ytgmiilkdkhlolaa", sum := "844d1cbe8256bd0ae03e4d491535f2fbd7f9aa1876080b8d6cb3c74f3c07b013", func := "deadeye/deadeyelaw19.ClientEnds", spec := "clientEnds", unfollowed := true, recurses := true, apart := false, narrowed := true }
def ClientEndsUptoSaid : Prop := clientEndsUptoRow.holds Try.pinned (OpenSpec.upto clientEndsSpec)

/-- 'deadeyelaw19.ClientNums', WHERE WHAT IT READS IS OF BULK AT MOST 1048576: true; the input reads as it did. -/
def clientNumsUptoRow : OpenClaim := { program := "ytgmiilkdkhlolaa", sum := "844d1cbe8256bd0ae03e4d491535f2fbd7f9aa1876080b8d6cb3c74f3c07b013", func := "deadeye/deadeyelaw19.ClientNums", spec := "clientNums", unfollowed := true, recurses := true, apart := false, narrowed := true }
def ClientNumsUptoSaid : Prop := clientNumsUptoRow.holds Try.pinned (OpenSpec.upto clientNumsSpec)

/-- 'deadeyelaw19.ClientNone', WHERE WHAT IT READS IS OF BULK AT MOST 1048576: true; the input reads as it did. -/
def clientNoneUptoRow : OpenClaim := { program := "ytgmiilkdkhlolaa", sum := "844d1cbe8256bd0ae03e4d491535f2fbd7f9aa1876080b8d6cb3c74f3c07b013", func := "deadeye/deadeyelaw19.ClientNone", spec := "clientNone", unfollowed := true, recurses := true, apart := false, narrowed := true }
def ClientNoneUptoSaid : Prop := clientNoneUptoRow.holds Try.pinned (OpenSpec.upto clientNoneSpec)

end Rows
end Go.Proofs.Ytgmiilkdkhlolaa
