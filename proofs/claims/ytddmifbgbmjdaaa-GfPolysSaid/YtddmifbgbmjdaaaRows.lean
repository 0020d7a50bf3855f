/-
  No cell of these rows narrows 'for every input' (looked for: loops, veiled, ifaces, maps, wideKeys, modest, calm, conditions, laid).
  DERIVED. THE GIVEN ROWS OF THIS SEAT. 12 by the template 'for every input the law returns true; each argument reads behind the call as it read before'; 0 by the template 'total and deterministic' (their statements: YtddmifbgbmjdaaaTotals.lean).
  GIVEN WITH THE SEED: the statements are not yours to turn. If you find one false, say at which input.
  Laid BY PROGRAM, IN A SANDBOX (cutbox-rows.mjs): the forced cells as the released guide's own fill.sh prints them over the translation f7386e482cee4985… (all of the seat's roots in one cut). By AI agents, Wed Nov 11 2026. No macro, syntax, notation, axiom, sorry.
-/
import Derived.Test.YtddmifbgbmjdaaaChecked
import GoSem.Claim
import GoSem.ClaimJoined
import GoSem.ClaimMapViews
import Derived.JoinedTies
import Derived.KernelRfl
namespace Go.Proofs.Ytddmifbgbmjdaaa
/- THE CELL 'sum', in the pinned program and in every row, IS THE sha256 OF THE DUMP (.gsa) THAT YtddmifbgbmjdaaaProg.lean LOADS. Nothing in Lean hashes anything: it is a label: what it is worth is what the hold of that sum in a sandbox is worth. -/
noncomputable def Try.pinned : Pinned := { name := "ytddmifbgbmjdaaa", sum := "f7386e482cee49857ed840649d997b5205907454dc4910b81854850ab327aecd", checked := Try.checked }
namespace Rows
def none {H : Type} : Left H := { results := [], args := [] }

/-- 'deadeyelaw04.SumJoins': WHATEVER THE INPUT: true; the input reads as it did. -/
def sumJoinsSpec : ChangeSpec := { name := "sumJoins", fn := fun _ => fun
  | [d1, d2] => { results := [.lit (.bool true)], args := [d1, d2] }
  | _ => none }
def sumJoinsRow : OpenClaim := { program := "ytddmifbgbmjdaaa", sum := "f7386e482cee49857ed840649d997b5205907454dc4910b81854850ab327aecd", func := "deadeye/deadeyelaw04.SumJoins", spec := "sumJoins", apart := false }
def SumJoinsSaid : Prop := sumJoinsRow.holds Try.pinned (OpenSpec.ofChange sumJoinsSpec)

/-- ITS FALSE NEIGHBOUR: 'it returns false'. Refute it at one input. -/
def sumJoinsWrong : ChangeSpec := { name := "sumJoins", fn := fun _ => fun
  | [d1, d2] => { results := [.lit (.bool false)], args := [d1, d2] }
  | _ => none }
def SumJoinsWrongFalsely : Prop := sumJoinsRow.holds Try.pinned (OpenSpec.ofChange sumJoinsWrong)

/-- 'deadeyelaw04.SumFinds': WHATEVER THE INPUT: true; the input reads as it did. -/
def sumFindsSpec : ChangeSpec := { name := "sumFinds", fn := fun _ => fun
  | [d1, d2, d3] => { results := [.lit (.bool true)], args := [d1, d2, d3] }
  | _ => none }
def sumFindsRow : OpenClaim := { program := "ytddmifbgbmjdaaa", sum := "f7386e482cee49857ed840649d997b5205907454dc4910b81854850ab327aecd", func := "deadeye/deadeyelaw04.SumFinds", spec := "sumFinds", apart := false }
def SumFindsSaid : Prop := sumFindsRow.holds Try.pinned (OpenSpec.ofChange sumFindsSpec)

/-- ITS FALSE NEIGHBOUR: 'it returns false'. Refute it at one input. -/
def sumFindsWrong : ChangeSpec := { name := "sumFinds", fn := fun _ => fun
  | [d1, d2, d3] => { results := [.lit (.bool false)], args := [d1, d2, d3] }
  | _ => none }
def SumFindsWrongFalsely : Prop := sumFindsRow.holds Try.pinned (OpenSpec.ofChange sumFindsWrong)

/-- 'deadeyelaw04.SumZero': WHATEVER THE INPUT: true; the input reads as it did. -/
def sumZeroSpec : ChangeSpec := { name := "sumZero", fn := fun _ => fun
  | [d1, d2, d3] => { results := [.lit (.bool true)], args := [d1, d2, d3] }
  | _ => none }
def sumZeroRow : OpenClaim := { program := "ytddmifbgbmjdaaa", sum := "f7386e482cee49857ed840649d997b5205907454dc4910b81854850ab327aecd", func := "deadeye/deadeyelaw04.SumZero", spec := "sumZero", apart := false }
def SumZeroSaid : Prop := sumZeroRow.holds Try.pinned (OpenSpec.ofChange sumZeroSpec)

/-- ITS FALSE NEIGHBOUR: 'it returns false'. Refute it at one input. -/
def sumZeroWrong : ChangeSpec := { name := "sumZero", fn := fun _ => fun
  | [d1, d2, d3] => { results := [.lit (.bool false)], args := [d1, d2, d3] }
  | _ => none }
def SumZeroWrongFalsely : Prop := sumZeroRow.holds Try.pinned (OpenSpec.ofChange sumZeroWrong)

/-- 'deadeyelaw04.SumSums': WHATEVER THE INPUT: true; the input reads as it did. -/
def sumSumsSpec : ChangeSpec := { name := "sumSums", fn := fun _ => fun
  | [d] => { results := [.lit (.bool true)], args := [d] }
  | _ => none }
def sumSumsRow : OpenClaim := { program := "ytddmifbgbmjdaaa", sum := "f7386e482cee49857ed840649d997b5205907454dc4910b81854850ab327aecd", func := "deadeye/deadeyelaw04.SumSums", spec := "sumSums", apart := false }
def SumSumsSaid : Prop := sumSumsRow.holds Try.pinned (OpenSpec.ofChange sumSumsSpec)

/-- ITS FALSE NEIGHBOUR: 'it returns false'. Refute it at one input. -/
def sumSumsWrong : ChangeSpec := { name := "sumSums", fn := fun _ => fun
  | [d] => { results := [.lit (.bool false)], args := [d] }
  | _ => none }
def SumSumsWrongFalsely : Prop := sumSumsRow.holds Try.pinned (OpenSpec.ofChange sumSumsWrong)

/-- 'deadeyelaw01.GfMuls': WHATEVER THE INPUT: true; the input reads as it did. -/
def gfMulsSpec : ChangeSpec := { name := "gfMuls", fn := fun _ => fun
  | [d1, d2] => { results := [.lit (.bool true)], args := [d1, d2] }
  | _ => none }
def gfMulsRow : OpenClaim := { program := "ytddmifbgbmjdaaa", sum := "f7386e482cee49857ed840649d997b5205907454dc4910b81854850ab327aecd", func := "deadeye/deadeyelaw01.GfMuls", spec := "gfMuls", apart := false }
def GfMulsSaid : Prop := gfMulsRow.holds Try.pinned (OpenSpec.ofChange gfMulsSpec)

/-- ITS FALSE NEIGHBOUR: 'it returns false'. Refute it at one input. -/
def gfMulsWrong : ChangeSpec := { name := "gfMuls", fn := fun _ => fun
  | [d1, d2] => { results := [.lit (.bool false)], args := [d1, d2] }
  | _ => none }
def GfMulsWrongFalsely : Prop := gfMulsRow.holds Try.pinned (OpenSpec.ofChange gfMulsWrong)

/-- 'deadeyelaw01.GfPows': WHATEVER THE INPUT: true; the input reads as it did. -/
def gfPowsSpec : ChangeSpec := { name := "gfPows", fn := fun _ => fun
  | [d1, d2] => { results := [.lit (.bool true)], args := [d1, d2] }
  | _ => none }
def gfPowsRow : OpenClaim := { program := "ytddmifbgbmjdaaa", sum := "f7386e482cee49857ed840649d997b5205907454dc4910b81854850ab327aecd", func := "deadeye/deadeyelaw01.GfPows", spec := "gfPows", apart := false }
def GfPowsSaid : Prop := gfPowsRow.holds Try.pinned (OpenSpec.ofChange gfPowsSpec)

/-- ITS FALSE NEIGHBOUR: 'it returns false'. Refute it at one input. -/
def gfPowsWrong : ChangeSpec := { name := "gfPows", fn := fun _ => fun
  | [d1, d2] => { results := [.lit (.bool false)], args := [d1, d2] }
  | _ => none }
def GfPowsWrongFalsely : Prop := gfPowsRow.holds Try.pinned (OpenSpec.ofChange gfPowsWrong)

/-- 'deadeyelaw01.GfEvals': WHATEVER THE INPUT: true; the input reads as it did. -/
def gfEvalsSpec : ChangeSpec := { name := "gfEvals", fn := fun _ => fun
  | [d1, d2] => { results := [.lit (.bool true)], args := [d1, d2] }
  | _ => none }
def gfEvalsRow : OpenClaim := { program := "ytddmifbgbmjdaaa", sum := "f7386e482cee49857ed840649d997b5205907454dc4910b81854850ab327aecd", func := "deadeye/deadeyelaw01.GfEvals", spec := "gfEvals", apart := false }
def GfEvalsSaid : Prop := gfEvalsRow.holds Try.pinned (OpenSpec.ofChange gfEvalsSpec)

/-- ITS FALSE NEIGHBOUR: 'it returns false'. Refute it at one input. -/
def gfEvalsWrong : ChangeSpec := { name := "gfEvals", fn := fun _ => fun
  | [d1, d2] => { results := [.lit (.bool false)], args := [d1, d2] }
  | _ => none }
def GfEvalsWrongFalsely : Prop := gfEvalsRow.holds Try.pinned (OpenSpec.ofChange gfEvalsWrong)

/-- 'deadeyelaw01.GfField': WHATEVER THE INPUT: true; the input reads as it did. -/
def gfFieldSpec : ChangeSpec := { name := "gfField", fn := fun _ => fun
  | [d1, d2, d3] => { results := [.lit (.bool true)], args := [d1, d2, d3] }
  | _ => none }
def gfFieldRow : OpenClaim := { program := "ytddmifbgbmjdaaa", sum := "f7386e482cee49857ed840649d997b5205907454dc4910b81854850ab327aecd", func := "deadeye/deadeyelaw01.GfField", spec := "gfField", apart := false }
def GfFieldSaid : Prop := gfFieldRow.holds Try.pinned (OpenSpec.ofChange gfFieldSpec)

/-- ITS FALSE NEIGHBOUR: 'it returns false'. Refute it at one input. -/
def gfFieldWrong : ChangeSpec := { name := "gfField", fn := fun _ => fun
  | [d1, d2, d3] => { results := [.lit (.bool false)], args := [d1, d2, d3] }
  | _ => none }
def GfFieldWrongFalsely : Prop := gfFieldRow.holds Try.pinned (OpenSpec.ofChange gfFieldWrong)

/-- 'deadeyelaw01.GfPolys': WHATEVER THE INPUT: true; the input reads as it did. -/
def gfPolysSpec : ChangeSpec := { name := "gfPolys", fn := fun _ => fun
  | [d1, d2, d3] => { results := [.lit (.bool true)], args := [d1, d2, d3] }
  | _ => none }
def gfPolysRow : OpenClaim := { program := "ytddmifbgbmjdaaa", sum := "f7386e482cee49857ed840649d997b5205907454dc4910b81854850ab327aecd", func := "deadeye/deadeyelaw01.GfPolys", spec := "gfPolys", apart := false }
def GfPolysSaid : Prop := gfPolysRow.holds Try.pinned (OpenSpec.ofChange gfPolysSpec)

/-- ITS FALSE NEIGHBOUR: 'it returns false'. Refute it at one input. -/
def gfPolysWrong : ChangeSpec := { name := "gfPolys", fn := fun _ => fun
  | [d1, d2, d3] => { results := [.lit (.bool false)], args := [d1, d2, d3] }
  | _ => none }
def GfPolysWrongFalsely : Prop := gfPolysRow.holds Try.pinned (OpenSpec.ofChange gfPolysWrong)

/-- 'deadeyelaw01.GfLogs': WHATEVER THE INPUT: true; the input reads as it did. -/
def gfLogsSpec : ChangeSpec := { name := "gfLogs", fn := fun _ => fun
  | [d1, d2] => { results := [.lit (.bool true)], args := [d1, d2] }
  | _ => none }
def gfLogsRow : OpenClaim := { program := "ytddmifbgbmjdaaa", sum := "f7386e482cee49857ed840649d997b5205907454dc4910b81854850ab327aecd", func := "deadeye/deadeyelaw01.GfLogs", spec := "gfLogs", apart := false }
def GfLogsSaid : Prop := gfLogsRow.holds Try.pinned (OpenSpec.ofChange gfLogsSpec)

/-- ITS FALSE NEIGHBOUR: 'it returns false'. Refute it at one input. -/
def gfLogsWrong : ChangeSpec := { name := "gfLogs", fn := fun _ => fun
  | [d1, d2] => { results := [.lit (.bool false)], args := [d1, d2] }
  | _ => none }
def GfLogsWrongFalsely : Prop := gfLogsRow.holds Try.pinned (OpenSpec.ofChange gfLogsWrong)

/-- 'deadeyelaw01.GfInvs': WHATEVER THE INPUT: true; the input reads as it did. -/
def gfInvsSpec : ChangeSpec := { name := "gfInvs", fn := fun _ => fun
  | [d] => { results := [.lit (.bool true)], args := [d] }
  | _ => none }
def gfInvsRow : OpenClaim := { program := "ytddmifbgbmjdaaa", sum := "f7386e482cee49857ed840649d997b5205907454dc4910b81854850ab327aecd", func := "deadeye/deadeyelaw01.GfInvs", spec := "gfInvs", apart := false }
def GfInvsSaid : Prop := gfInvsRow.holds Try.pinned (OpenSpec.ofChange gfInvsSpec)

/-- ITS FALSE NEIGHBOUR: 'it returns false'. Refute it at one input. -/
def gfInvsWrong : ChangeSpec := { name := "gfInvs", fn := fun _ => fun
  | [d] => { results := [.lit (.bool false)], args := [d] }
  | _ => none }
def GfInvsWrongFalsely : Prop := gfInvsRow.holds Try.pinned (OpenSpec.ofChange gfInvsWrong)

/-- 'deadeyelaw01.GfNone': WHATEVER THE INPUT: true; the input reads as it did. -/
def gfNoneSpec : ChangeSpec := { name := "gfNone", fn := fun _ => fun
  | [d1, d2] => { results := [.lit (.bool true)], args := [d1, d2] }
  | _ => none }
def gfNoneRow : OpenClaim := { program := "ytddmifbgbmjdaaa", sum := "f7386e482cee49857ed840649d997b5205907454dc4910b81854850ab327aecd", func := "deadeye/deadeyelaw01.GfNone", spec := "gfNone", apart := false }
def GfNoneSaid : Prop := gfNoneRow.holds Try.pinned (OpenSpec.ofChange gfNoneSpec)

/-- ITS FALSE NEIGHBOUR: 'it returns false'. Refute it at one input. -/
def gfNoneWrong : ChangeSpec := { name := "gfNone", fn := fun _ => fun
  | [d1, d2] => { results := [.lit (.bool false)], args := [d1, d2] }
  | _ => none }
def GfNoneWrongFalsely : Prop := gfNoneRow.holds Try.pinned (OpenSpec.ofChange gfNoneWrong)

/- THE SECOND FORM. 'bulk': how many values and letters a reading holds, each counted each time it is reached (what is shared counts as often as it is met; a slice's spare places count too). A statement '..UptoSaid' is the law's where the arguments, and the package variables that the reading takes, are together of bulk at most 1048576: NARROWER than '..Said'. Prove '..Said' where nothing that the law and all that it calls make is longer than what came in: it says more and counts as full. Else prove '..UptoSaid'. A law counts once. -/
mutual
def uptoBulk {H : Type} : DataW H → Nat
  | .lit (.string bytes) => bytes.length + 1
  | .lit _ => 1
  | .nil => 1
  | .ptr d => uptoBulk d + 1
  | .slice elems spare => uptoBulkAll elems + uptoBulkAll spare + 1
  | .agg parts => uptoBulkAll parts + 1
  | .iface _ d => uptoBulk d + 1
  | .map entries => uptoBulkEntries entries + 1
  | .held _ => 1
def uptoBulkAll {H : Type} : List (DataW H) → Nat
  | [] => 0
  | d :: r => uptoBulk d + uptoBulkAll r
def uptoBulkEntries {H : Type} : List (Lit × DataW H) → Nat
  | [] => 0
  | x :: r => uptoBulkEntry x + uptoBulkEntries r
def uptoBulkEntry {H : Type} : Lit × DataW H → Nat
  | (.string bytes, d) => bytes.length + uptoBulk d + 1
  | (_, d) => uptoBulk d + 1
 end
def uptoSmall : (H : Type) → List (DataW H) → Bool := fun _ ds => decide (uptoBulkAll ds ≤ 1048576)
def OpenSpec.upto (s : _root_.Go.ChangeSpec) : _root_.Go.OpenSpec := { _root_.Go.OpenSpec.ofChange s with cond := some uptoSmall }

/-- 'deadeyelaw04.SumJoins', WHERE WHAT IT READS IS OF BULK AT MOST 1048576: true; the input reads as it did. -/
def sumJoinsUptoRow : OpenClaim := { program := "ytddmifbgbmjdaaa", sum := "f7386e482cee49857ed840649d997b5205907454dc4910b81854850ab327aecd", func := "deadeye/deadeyelaw04.SumJoins", spec := "sumJoins", apart := false, narrowed := true }
def SumJoinsUptoSaid : Prop := sumJoinsUptoRow.holds Try.pinned (OpenSpec.upto sumJoinsSpec)

/-- 'deadeyelaw04.SumFinds', WHERE WHAT IT READS IS OF BULK AT MOST 1048576: true; the input reads as it did. -/
def sumFindsUptoRow : OpenClaim := { program := "ytddmifbgbmjdaaa", sum := "f7386e482cee49857ed840649d997b5205907454dc4910b81854850ab327aecd", func := "deadeye/deadeyelaw04.SumFinds", spec := "sumFinds", apart := false, narrowed := true }
def SumFindsUptoSaid : Prop := sumFindsUptoRow.holds Try.pinned (OpenSpec.upto sumFindsSpec)

/-- 'deadeyelaw04.SumZero', WHERE WHAT IT READS IS OF BULK AT MOST 1048576: true; the input reads as it did. -/
def sumZeroUptoRow : OpenClaim := { program := "ytddmifbgbmjdaaa", sum := "f7386e482cee49857ed840649d997b5205907454dc4910b81854850ab327aecd", func := "deadeye/deadeyelaw04.SumZero", spec := "sumZero", apart := false, narrowed := true }
def SumZeroUptoSaid : Prop := sumZeroUptoRow.holds Try.pinned (OpenSpec.upto sumZeroSpec)

/-- 'deadeyelaw04.SumSums', WHERE WHAT IT READS IS OF BULK AT MOST 1048576: true; the input reads as it did. -/
def sumSumsUptoRow : OpenClaim := { program := "ytddmifbgbmjdaaa", sum := "f7386e482cee49857ed840649d997b5205907454dc4910b81854850ab327aecd", func := "deadeye/deadeyelaw04.SumSums", spec := "sumSums", apart := false, narrowed := true }
def SumSumsUptoSaid : Prop := sumSumsUptoRow.holds Try.pinned (OpenSpec.upto sumSumsSpec)

/-- 'deadeyelaw01.GfMuls', WHERE WHAT IT READS IS OF BULK AT MOST 1048576: true; the input reads as it did. -/
def gfMulsUptoRow : OpenClaim := { program := "ytddmifbgbmjdaaa", sum := "f7386e482cee49857ed840649d997b5205907454dc4910b81854850ab327aecd", func := "deadeye/deadeyelaw01.GfMuls", spec := "gfMuls", apart := false, narrowed := true }
def GfMulsUptoSaid : Prop := gfMulsUptoRow.holds Try.pinned (OpenSpec.upto gfMulsSpec)

/-- 'deadeyelaw01.GfPows', WHERE WHAT IT READS IS OF BULK AT MOST 1048576: true; the input reads as it did. -/
def gfPowsUptoRow : OpenClaim := { program := "ytddmifbgbmjdaaa", sum := "f7386e482cee49857ed840649d997b5205907454dc4910b81854850ab327aecd", func := "deadeye/deadeyelaw01.GfPows", spec := "gfPows", apart := false, narrowed := true }
def GfPowsUptoSaid : Prop := gfPowsUptoRow.holds Try.pinned (OpenSpec.upto gfPowsSpec)

/-- 'deadeyelaw01.GfEvals', WHERE WHAT IT READS IS OF BULK AT MOST 1048576: true; the input reads as it did. -/
def gfEvalsUptoRow : OpenClaim := { program := "ytddmifbgbmjdaaa", sum := "f7386e482cee49857ed840649d997b5205907454dc4910b81854850ab327aecd", func := "deadeye/deadeyelaw01.GfEvals", spec := "gfEvals", apart := false, narrowed := true }
def GfEvalsUptoSaid : Prop := gfEvalsUptoRow.holds Try.pinned (OpenSpec.upto gfEvalsSpec)

/-- 'deadeyelaw01.GfField', WHERE WHAT IT READS IS OF BULK AT MOST 1048576: true; the input reads as it did. -/
def gfFieldUptoRow : OpenClaim := { program := "ytddmifbgbmjdaaa", sum := "f7386e482cee49857ed840649d997b5205907454dc4910b81854850ab327aecd", func := "deadeye/deadeyelaw01.GfField", spec := "gfField", apart := false, narrowed := true }
def GfFieldUptoSaid : Prop := gfFieldUptoRow.holds Try.pinned (OpenSpec.upto gfFieldSpec)

/-- 'deadeyelaw01.GfPolys', WHERE WHAT IT READS IS OF BULK AT MOST 1048576: true; the input reads as it did. -/
def gfPolysUptoRow : OpenClaim := { program := "ytddmifbgbmjdaaa", sum := "f7386e482cee49857ed840649d997b5205907454dc4910b81854850ab327aecd", func := "deadeye/deadeyelaw01.GfPolys", spec := "gfPolys", apart := false, narrowed := true }
def GfPolysUptoSaid : Prop := gfPolysUptoRow.holds Try.pinned (OpenSpec.upto gfPolysSpec)

/-- 'deadeyelaw01.GfLogs', WHERE WHAT IT READS IS OF BULK AT MOST 1048576: true; the input reads as it did. -/
def gfLogsUptoRow : OpenClaim := { program := "ytddmifbgbmjdaaa", sum := "f7386e482cee49857ed840649d997b5205907454dc4910b81854850ab327aecd", func := "deadeye/deadeyelaw01.GfLogs", spec := "gfLogs", apart := false, narrowed := true }
def GfLogsUptoSaid : Prop := gfLogsUptoRow.holds Try.pinned (OpenSpec.upto gfLogsSpec)

/-- 'deadeyelaw01.GfInvs', WHERE WHAT IT READS IS OF BULK AT MOST 1048576: true; the input reads as it did. -/
def gfInvsUptoRow : OpenClaim := { program := "ytddmifbgbmjdaaa", sum := "f7386e482cee49857ed840649d997b5205907454dc4910b81854850ab327aecd", func := "deadeye/deadeyelaw01.GfInvs", spec := "gfInvs", apart := false, narrowed := true }
def GfInvsUptoSaid : Prop := gfInvsUptoRow.holds Try.pinned (OpenSpec.upto gfInvsSpec)

/-- 'deadeyelaw01.GfNone', WHERE WHAT IT READS IS OF BULK AT MOST 1048576: true; the input reads as it did. -/
def gfNoneUptoRow : OpenClaim := { program := "ytddmifbgbmjdaaa", sum := "f7386e482cee49857ed840649d997b5205907454dc4910b81854850ab327aecd", func := "deadeye/deadeyelaw01.GfNone", spec := "gfNone", apart := false, narrowed := true }
def GfNoneUptoSaid : Prop := gfNoneUptoRow.holds Try.pinned (OpenSpec.upto gfNoneSpec)

end Rows
end Go.Proofs.Ytddmifbgbmjdaaa
