/-
  No cell of these rows narrows 'for every input' (looked for: loops, veiled, ifaces, maps, wideKeys, modest, calm, conditions, laid).
  DERIVED. THE GIVEN ROWS OF THIS SEAT. 12 by the template 'for every input the law returns true; each argument reads behind the call as it read before'; 0 by the template 'total and deterministic' (their statements: YtddmifbgbmjdaabTotals.lean).
  GIVEN WITH THE SEED: the statements are not yours to turn. If you find one false, say at which input.
  Laid BY PROGRAM, IN A SANDBOX (cutbox-rows.mjs): the forced cells as the released guide's own fill.sh prints them over the translation 43a224e33cae7c79… (all of the seat's roots in one cut). By AI agents, Wed Nov 11 2026. No macro, syntax, notation, axiom, sorry.
-/
import Derived.Test.YtddmifbgbmjdaabChecked
import GoSem.Claim
import GoSem.ClaimJoined
import GoSem.ClaimMapViews
import Derived.JoinedTies
import Derived.KernelRfl
namespace Go.Proofs.Ytddmifbgbmjdaab
/- THE CELL 'sum', in the pinned program and in every row, IS THE sha256 OF THE DUMP (.gsa) THAT YtddmifbgbmjdaabProg.lean LOADS. Nothing in Lean hashes anything: it is a label: what it is worth is what the hold of that sum in a sandbox is worth. -/
noncomputable def Try.pinned : Pinned := { name := "ytddmifbgbmjdaab", sum := "43a224e33cae7c7909d28234c9c91daf853c98ddf70e49309c38a23e9f389e02", checked := Try.checked }
namespace Rows
def none {H : Type} : Left H := { results := [], args := [] }

/-- 'deadeyelaw02.MatMuls': WHATEVER THE INPUT: true; the input reads as it did. -/
def matMulsSpec : ChangeSpec := { name := "matMuls", fn := fun _ => fun
  | [d1, d2] => { results := [.lit (.bool true)], args := [d1, d2] }
  | _ => none }
def matMulsRow : OpenClaim := { program := "ytddmifbgbmjdaab", sum := "43a224e33cae7c7909d28234c9c91daf853c98ddf70e49309c38a23e9f389e02", func := "deadeye/deadeyelaw02.MatMuls", spec := "matMuls", unfollowed := true, recurses := true, apart := false }
def MatMulsSaid : Prop := matMulsRow.holds Try.pinned (OpenSpec.ofChange matMulsSpec)

/-- ITS FALSE NEIGHBOUR: 'it returns false'. Refute it at one input. -/
def matMulsWrong : ChangeSpec := { name := "matMuls", fn := fun _ => fun
  | [d1, d2] => { results := [.lit (.bool false)], args := [d1, d2] }
  | _ => none }
def MatMulsWrongFalsely : Prop := matMulsRow.holds Try.pinned (OpenSpec.ofChange matMulsWrong)

/-- 'deadeyelaw02.MatInverts': WHATEVER THE INPUT: true; the input reads as it did. -/
def matInvertsSpec : ChangeSpec := { name := "matInverts", fn := fun _ => fun
  | [d] => { results := [.lit (.bool true)], args := [d] }
  | _ => none }
def matInvertsRow : OpenClaim := { program := "ytddmifbgbmjdaab", sum := "43a224e33cae7c7909d28234c9c91daf853c98ddf70e49309c38a23e9f389e02", func := "deadeye/deadeyelaw02.MatInverts", spec := "matInverts", unfollowed := true, recurses := true, apart := false }
def MatInvertsSaid : Prop := matInvertsRow.holds Try.pinned (OpenSpec.ofChange matInvertsSpec)

/-- ITS FALSE NEIGHBOUR: 'it returns false'. Refute it at one input. -/
def matInvertsWrong : ChangeSpec := { name := "matInverts", fn := fun _ => fun
  | [d] => { results := [.lit (.bool false)], args := [d] }
  | _ => none }
def MatInvertsWrongFalsely : Prop := matInvertsRow.holds Try.pinned (OpenSpec.ofChange matInvertsWrong)

/-- 'deadeyelaw02.MatVanders': WHATEVER THE INPUT: true; the input reads as it did. -/
def matVandersSpec : ChangeSpec := { name := "matVanders", fn := fun _ => fun
  | [d1, d2] => { results := [.lit (.bool true)], args := [d1, d2] }
  | _ => none }
def matVandersRow : OpenClaim := { program := "ytddmifbgbmjdaab", sum := "43a224e33cae7c7909d28234c9c91daf853c98ddf70e49309c38a23e9f389e02", func := "deadeye/deadeyelaw02.MatVanders", spec := "matVanders", unfollowed := true, recurses := true, apart := false }
def MatVandersSaid : Prop := matVandersRow.holds Try.pinned (OpenSpec.ofChange matVandersSpec)

/-- ITS FALSE NEIGHBOUR: 'it returns false'. Refute it at one input. -/
def matVandersWrong : ChangeSpec := { name := "matVanders", fn := fun _ => fun
  | [d1, d2] => { results := [.lit (.bool false)], args := [d1, d2] }
  | _ => none }
def MatVandersWrongFalsely : Prop := matVandersRow.holds Try.pinned (OpenSpec.ofChange matVandersWrong)

/-- 'deadeyelaw02.MatChains': WHATEVER THE INPUT: true; the input reads as it did. -/
def matChainsSpec : ChangeSpec := { name := "matChains", fn := fun _ => fun
  | [d1, d2, d3] => { results := [.lit (.bool true)], args := [d1, d2, d3] }
  | _ => none }
def matChainsRow : OpenClaim := { program := "ytddmifbgbmjdaab", sum := "43a224e33cae7c7909d28234c9c91daf853c98ddf70e49309c38a23e9f389e02", func := "deadeye/deadeyelaw02.MatChains", spec := "matChains", unfollowed := true, recurses := true, apart := false }
def MatChainsSaid : Prop := matChainsRow.holds Try.pinned (OpenSpec.ofChange matChainsSpec)

/-- ITS FALSE NEIGHBOUR: 'it returns false'. Refute it at one input. -/
def matChainsWrong : ChangeSpec := { name := "matChains", fn := fun _ => fun
  | [d1, d2, d3] => { results := [.lit (.bool false)], args := [d1, d2, d3] }
  | _ => none }
def MatChainsWrongFalsely : Prop := matChainsRow.holds Try.pinned (OpenSpec.ofChange matChainsWrong)

/-- 'deadeyelaw02.MatVandermonde': WHATEVER THE INPUT: true; the input reads as it did. -/
def matVandermondeSpec : ChangeSpec := { name := "matVandermonde", fn := fun _ => fun
  | [d1, d2] => { results := [.lit (.bool true)], args := [d1, d2] }
  | _ => none }
def matVandermondeRow : OpenClaim := { program := "ytddmifbgbmjdaab", sum := "43a224e33cae7c7909d28234c9c91daf853c98ddf70e49309c38a23e9f389e02", func := "deadeye/deadeyelaw02.MatVandermonde", spec := "matVandermonde", unfollowed := true, recurses := true, apart := false }
def MatVandermondeSaid : Prop := matVandermondeRow.holds Try.pinned (OpenSpec.ofChange matVandermondeSpec)

/-- ITS FALSE NEIGHBOUR: 'it returns false'. Refute it at one input. -/
def matVandermondeWrong : ChangeSpec := { name := "matVandermonde", fn := fun _ => fun
  | [d1, d2] => { results := [.lit (.bool false)], args := [d1, d2] }
  | _ => none }
def MatVandermondeWrongFalsely : Prop := matVandermondeRow.holds Try.pinned (OpenSpec.ofChange matVandermondeWrong)

/-- 'deadeyelaw03.RsCodes': WHATEVER THE INPUT: true; the input reads as it did. -/
def rsCodesSpec : ChangeSpec := { name := "rsCodes", fn := fun _ => fun
  | [d1, d2] => { results := [.lit (.bool true)], args := [d1, d2] }
  | _ => none }
def rsCodesRow : OpenClaim := { program := "ytddmifbgbmjdaab", sum := "43a224e33cae7c7909d28234c9c91daf853c98ddf70e49309c38a23e9f389e02", func := "deadeye/deadeyelaw03.RsCodes", spec := "rsCodes", unfollowed := true, recurses := true, apart := false }
def RsCodesSaid : Prop := rsCodesRow.holds Try.pinned (OpenSpec.ofChange rsCodesSpec)

/-- ITS FALSE NEIGHBOUR: 'it returns false'. Refute it at one input. -/
def rsCodesWrong : ChangeSpec := { name := "rsCodes", fn := fun _ => fun
  | [d1, d2] => { results := [.lit (.bool false)], args := [d1, d2] }
  | _ => none }
def RsCodesWrongFalsely : Prop := rsCodesRow.holds Try.pinned (OpenSpec.ofChange rsCodesWrong)

/-- 'deadeyelaw03.RsEncodes': WHATEVER THE INPUT: true; the input reads as it did. -/
def rsEncodesSpec : ChangeSpec := { name := "rsEncodes", fn := fun _ => fun
  | [d1, d2] => { results := [.lit (.bool true)], args := [d1, d2] }
  | _ => none }
def rsEncodesRow : OpenClaim := { program := "ytddmifbgbmjdaab", sum := "43a224e33cae7c7909d28234c9c91daf853c98ddf70e49309c38a23e9f389e02", func := "deadeye/deadeyelaw03.RsEncodes", spec := "rsEncodes", unfollowed := true, recurses := true, apart := false }
def RsEncodesSaid : Prop := rsEncodesRow.holds Try.pinned (OpenSpec.ofChange rsEncodesSpec)

/-- ITS FALSE NEIGHBOUR: 'it returns false'. Refute it at one input. -/
def rsEncodesWrong : ChangeSpec := { name := "rsEncodes", fn := fun _ => fun
  | [d1, d2] => { results := [.lit (.bool false)], args := [d1, d2] }
  | _ => none }
def RsEncodesWrongFalsely : Prop := rsEncodesRow.holds Try.pinned (OpenSpec.ofChange rsEncodesWrong)

/-- 'deadeyelaw03.RsSums': WHATEVER THE INPUT: true; the input reads as it did. -/
def rsSumsSpec : ChangeSpec := { name := "rsSums", fn := fun _ => fun
  | [d1, d2, d3, d4] => { results := [.lit (.bool true)], args := [d1, d2, d3, d4] }
  | _ => none }
def rsSumsRow : OpenClaim := { program := "ytddmifbgbmjdaab", sum := "43a224e33cae7c7909d28234c9c91daf853c98ddf70e49309c38a23e9f389e02", func := "deadeye/deadeyelaw03.RsSums", spec := "rsSums", unfollowed := true, recurses := true, apart := false }
def RsSumsSaid : Prop := rsSumsRow.holds Try.pinned (OpenSpec.ofChange rsSumsSpec)

/-- ITS FALSE NEIGHBOUR: 'it returns false'. Refute it at one input. -/
def rsSumsWrong : ChangeSpec := { name := "rsSums", fn := fun _ => fun
  | [d1, d2, d3, d4] => { results := [.lit (.bool false)], args := [d1, d2, d3, d4] }
  | _ => none }
def RsSumsWrongFalsely : Prop := rsSumsRow.holds Try.pinned (OpenSpec.ofChange rsSumsWrong)

/-- 'deadeyelaw03.RsOther': WHATEVER THE INPUT: true; the input reads as it did. -/
def rsOtherSpec : ChangeSpec := { name := "rsOther", fn := fun _ => fun
  | [d1, d2, d3, d4, d5] => { results := [.lit (.bool true)], args := [d1, d2, d3, d4, d5] }
  | _ => none }
def rsOtherRow : OpenClaim := { program := "ytddmifbgbmjdaab", sum := "43a224e33cae7c7909d28234c9c91daf853c98ddf70e49309c38a23e9f389e02", func := "deadeye/deadeyelaw03.RsOther", spec := "rsOther", unfollowed := true, recurses := true, apart := false }
def RsOtherSaid : Prop := rsOtherRow.holds Try.pinned (OpenSpec.ofChange rsOtherSpec)

/-- ITS FALSE NEIGHBOUR: 'it returns false'. Refute it at one input. -/
def rsOtherWrong : ChangeSpec := { name := "rsOther", fn := fun _ => fun
  | [d1, d2, d3, d4, d5] => { results := [.lit (.bool false)], args := [d1, d2, d3, d4, d5] }
  | _ => none }
def RsOtherWrongFalsely : Prop := rsOtherRow.holds Try.pinned (OpenSpec.ofChange rsOtherWrong)

/-- 'deadeyelaw03.RsCopies': WHATEVER THE INPUT: true; the input reads as it did. -/
def rsCopiesSpec : ChangeSpec := { name := "rsCopies", fn := fun _ => fun
  | [d1, d2] => { results := [.lit (.bool true)], args := [d1, d2] }
  | _ => none }
def rsCopiesRow : OpenClaim := { program := "ytddmifbgbmjdaab", sum := "43a224e33cae7c7909d28234c9c91daf853c98ddf70e49309c38a23e9f389e02", func := "deadeye/deadeyelaw03.RsCopies", spec := "rsCopies", unfollowed := true, recurses := true, apart := false }
def RsCopiesSaid : Prop := rsCopiesRow.holds Try.pinned (OpenSpec.ofChange rsCopiesSpec)

/-- ITS FALSE NEIGHBOUR: 'it returns false'. Refute it at one input. -/
def rsCopiesWrong : ChangeSpec := { name := "rsCopies", fn := fun _ => fun
  | [d1, d2] => { results := [.lit (.bool false)], args := [d1, d2] }
  | _ => none }
def RsCopiesWrongFalsely : Prop := rsCopiesRow.holds Try.pinned (OpenSpec.ofChange rsCopiesWrong)

/-- 'deadeyelaw03.RsAny': WHATEVER THE INPUT: true; the input reads as it did. -/
def rsAnySpec : ChangeSpec := { name := "rsAny", fn := fun _ => fun
  | [d1, d2, d3] => { results := [.lit (.bool true)], args := [d1, d2, d3] }
  | _ => none }
def rsAnyRow : OpenClaim := { program := "ytddmifbgbmjdaab", sum := "43a224e33cae7c7909d28234c9c91daf853c98ddf70e49309c38a23e9f389e02", func := "deadeye/deadeyelaw03.RsAny", spec := "rsAny", unfollowed := true, recurses := true, apart := false }
def RsAnySaid : Prop := rsAnyRow.holds Try.pinned (OpenSpec.ofChange rsAnySpec)

/-- ITS FALSE NEIGHBOUR: 'it returns false'. Refute it at one input. -/
def rsAnyWrong : ChangeSpec := { name := "rsAny", fn := fun _ => fun
  | [d1, d2, d3] => { results := [.lit (.bool false)], args := [d1, d2, d3] }
  | _ => none }
def RsAnyWrongFalsely : Prop := rsAnyRow.holds Try.pinned (OpenSpec.ofChange rsAnyWrong)

/-- 'deadeyelaw03.RsDecodes': WHATEVER THE INPUT: true; the input reads as it did. -/
def rsDecodesSpec : ChangeSpec := { name := "rsDecodes", fn := fun _ => fun
  | [d1, d2, d3] => { results := [.lit (.bool true)], args := [d1, d2, d3] }
  | _ => none }
def rsDecodesRow : OpenClaim := { program := "ytddmifbgbmjdaab", sum := "43a224e33cae7c7909d28234c9c91daf853c98ddf70e49309c38a23e9f389e02", func := "deadeye/deadeyelaw03.RsDecodes", spec := "rsDecodes", unfollowed := true, recurses := true, apart := false }
def RsDecodesSaid : Prop := rsDecodesRow.holds Try.pinned (OpenSpec.ofChange rsDecodesSpec)

/-- ITS FALSE NEIGHBOUR: 'it returns false'. Refute it at one input. -/
def rsDecodesWrong : ChangeSpec := { name := "rsDecodes", fn := fun _ => fun
  | [d1, d2, d3] => { results := [.lit (.bool false)], args := [d1, d2, d3] }
  | _ => none }
def RsDecodesWrongFalsely : Prop := rsDecodesRow.holds Try.pinned (OpenSpec.ofChange rsDecodesWrong)

/- THE SECOND FORM. 'bulk': how many values and letters a reading holds, each counted each time it is reached (what is shared counts as often as it is met; a slice's spare places count too). A statement '..UptoSaid' is the law's where the arguments, and the package variables that the reading takes, are together of bulk at most 1048576: NARROWER than '..Said'. Prove '..Said' where nothing that the law and all that it calls make is longer than what came in: it says more and counts as full. Else prove '..UptoSaid'. A law counts once. -/
mutual
def uptoBulk {H : Type} : DataW H → Nat
  | .lit (.string bytes) => bytes.length + 1
  | .lit _ => 1
  | .nil => 1
  | .ptr d => uptoBulk d + 1
  | .slice elems spare => uptoBulkAll elems + uptoBulkAll spare + 1
  | .agg parts => uptoBulkAll parts + 1
  | .iface _ d => uptoBulk d + 1
  | .map entries => uptoBulkEntries entries + 1
  | .held _ => 1
def uptoBulkAll {H : Type} : List (DataW H) → Nat
  | [] => 0
  | d :: r => uptoBulk d + uptoBulkAll r
def uptoBulkEntries {H : Type} : List (Lit × DataW H) → Nat
  | [] => 0
  | x :: r => uptoBulkEntry x + uptoBulkEntries r
def uptoBulkEntry {H : Type} : Lit × DataW H → Nat
  | (.string bytes, d) => bytes.length + uptoBulk d + 1
  | (_, d) => uptoBulk d + 1
 end
def uptoSmall : (H : Type) → List (DataW H) → Bool := fun _ ds => decide (uptoBulkAll ds ≤ 1048576)
def OpenSpec.upto (s : _root_.Go.ChangeSpec) : _root_.Go.OpenSpec := { _root_.Go.OpenSpec.ofChange s with cond := some uptoSmall }

/-- 'deadeyelaw02.MatMuls', WHERE WHAT IT READS IS OF BULK AT MOST 1048576: true; the input reads as it did. -/
def matMulsUptoRow : OpenClaim := { program := "ytddmifbgbmjdaab", sum := "43a224e33cae7c7909d28234c9c91daf853c98ddf70e49309c38a23e9f389e02", func := "deadeye/deadeyelaw02.MatMuls", spec := "matMuls", unfollowed := true, recurses := true, apart := false, narrowed := true }
def MatMulsUptoSaid : Prop := matMulsUptoRow.holds Try.pinned (OpenSpec.upto matMulsSpec)

/-- 'deadeyelaw02.MatInverts', WHERE WHAT IT READS IS OF BULK AT MOST 1048576: true; the input reads as it did. -/
def matInvertsUptoRow : OpenClaim := { program := "ytddmifbgbmjdaab", sum := "43a224e33cae7c7909d28234c9c91daf853c98ddf70e49309c38a23e9f389e02", func := "deadeye/deadeyelaw02.MatInverts", spec := "matInverts", unfollowed := true, recurses := true, apart := false, narrowed := true }
def MatInvertsUptoSaid : Prop := matInvertsUptoRow.holds Try.pinned (OpenSpec.upto matInvertsSpec)

/-- 'deadeyelaw02.MatVanders', WHERE WHAT IT READS IS OF BULK AT MOST 1048576: true; the input reads as it did. -/
def matVandersUptoRow : OpenClaim := { program := "ytddmifbgbmjdaab", sum := "43a224e33cae7c7909d28234c9c91daf853c98ddf70e49309c38a23e9f389e02", func := "deadeye/deadeyelaw02.MatVanders", spec := "matVanders", unfollowed := true, recurses := true, apart := false, narrowed := true }
def MatVandersUptoSaid : Prop := matVandersUptoRow.holds Try.pinned (OpenSpec.upto matVandersSpec)

/-- 'deadeyelaw02.MatChains', WHERE WHAT IT READS IS OF BULK AT MOST 1048576: true; the input reads as it did. -/
def matChainsUptoRow : OpenClaim := { program := "ytddmifbgbmjdaab", sum := "43a224e33cae7c7909d28234c9c91daf853c98ddf70e49309c38a23e9f389e02", func := "deadeye/deadeyelaw02.MatChains", spec := "matChains", unfollowed := true, recurses := true, apart := false, narrowed := true }
def MatChainsUptoSaid : Prop := matChainsUptoRow.holds Try.pinned (OpenSpec.upto matChainsSpec)

/-- 'deadeyelaw02.MatVandermonde', WHERE WHAT IT READS IS OF BULK AT MOST 1048576: true; the input reads as it did. -/
def matVandermondeUptoRow : OpenClaim := { program := "ytddmifbgbmjdaab", sum := "43a224e33cae7c7909d28234c9c91daf853c98ddf70e49309c38a23e9f389e02", func := "deadeye/deadeyelaw02.MatVandermonde", spec := "matVandermonde", unfollowed := true, recurses := true, apart := false, narrowed := true }
def MatVandermondeUptoSaid : Prop := matVandermondeUptoRow.holds Try.pinned (OpenSpec.upto matVandermondeSpec)

/-- 'deadeyelaw03.RsCodes', WHERE WHAT IT READS IS OF BULK AT MOST 1048576: true; the input reads as it did. -/
def rsCodesUptoRow : OpenClaim := { program := "ytddmifbgbmjdaab", sum := "43a224e33cae7c7909d28234c9c91daf853c98ddf70e49309c38a23e9f389e02", func := "deadeye/deadeyelaw03.RsCodes", spec := "rsCodes", unfollowed := true, recurses := true, apart := false, narrowed := true }
def RsCodesUptoSaid : Prop := rsCodesUptoRow.holds Try.pinned (OpenSpec.upto rsCodesSpec)

/-- 'deadeyelaw03.RsEncodes', WHERE WHAT IT READS IS OF BULK AT MOST 1048576: true; the input reads as it did. -/
def rsEncodesUptoRow : OpenClaim := { program := "ytddmifbgbmjdaab", sum := "43a224e33cae7c7909d28234c9c91daf853c98ddf70e49309c38a23e9f389e02", func := "deadeye/deadeyelaw03.RsEncodes", spec := "rsEncodes", unfollowed := true, recurses := true, apart := false, narrowed := true }
def RsEncodesUptoSaid : Prop := rsEncodesUptoRow.holds Try.pinned (OpenSpec.upto rsEncodesSpec)

/-- 'deadeyelaw03.RsSums', WHERE WHAT IT READS IS OF BULK AT MOST 1048576: true; the input reads as it did. -/
def rsSumsUptoRow : OpenClaim := { program := "ytddmifbgbmjdaab", sum := "43a224e33cae7c7909d28234c9c91daf853c98ddf70e49309c38a23e9f389e02", func := "deadeye/deadeyelaw03.RsSums", spec := "rsSums", unfollowed := true, recurses := true, apart := false, narrowed := true }
def RsSumsUptoSaid : Prop := rsSumsUptoRow.holds Try.pinned (OpenSpec.upto rsSumsSpec)

/-- 'deadeyelaw03.RsOther', WHERE WHAT IT READS IS OF BULK AT MOST 1048576: true; the input reads as it did. -/
def rsOtherUptoRow : OpenClaim := { program := "ytddmifbgbmjdaab", sum := "43a224e33cae7c7909d28234c9c91daf853c98ddf70e49309c38a23e9f389e02", func := "deadeye/deadeyelaw03.RsOther", spec := "rsOther", unfollowed := true, recurses := true, apart := false, narrowed := true }
def RsOtherUptoSaid : Prop := rsOtherUptoRow.holds Try.pinned (OpenSpec.upto rsOtherSpec)

/-- 'deadeyelaw03.RsCopies', WHERE WHAT IT READS IS OF BULK AT MOST 1048576: true; the input reads as it did. -/
def rsCopiesUptoRow : OpenClaim := { program := "ytddmifbgbmjdaab", sum := "43a224e33cae7c7909d28234c9c91daf853c98ddf70e49309c38a23e9f389e02", func := "deadeye/deadeyelaw03.RsCopies", spec := "rsCopies", unfollowed := true, recurses := true, apart := false, narrowed := true }
def RsCopiesUptoSaid : Prop := rsCopiesUptoRow.holds Try.pinned (OpenSpec.upto rsCopiesSpec)

/-- 'deadeyelaw03.RsAny', WHERE WHAT IT READS IS OF BULK AT MOST 1048576: true; the input reads as it did. -/
def rsAnyUptoRow : OpenClaim := { program := "ytddmifbgbmjdaab", sum := "43a224e33cae7c7909d28234c9c91daf853c98ddf70e49309c38a23e9f389e02", func := "deadeye/deadeyelaw03.RsAny", spec := "rsAny", unfollowed := true, recurses := true, apart := false, narrowed := true }
def RsAnyUptoSaid : Prop := rsAnyUptoRow.holds Try.pinned (OpenSpec.upto rsAnySpec)

/-- 'deadeyelaw03.RsDecodes', WHERE WHAT IT READS IS OF BULK AT MOST 1048576: true; the input reads as it did. -/
def rsDecodesUptoRow : OpenClaim := { program := "ytddmifbgbmjdaab", sum := "43a224e33cae7c7909d28234c9c91daf853c98ddf70e49309c38a23e9f389e02", func := "deadeye/deadeyelaw03.RsDecodes", spec := "rsDecodes", unfollowed := true, recurses := true, apart := false, narrowed := true }
def RsDecodesUptoSaid : Prop := rsDecodesUptoRow.holds Try.pinned (OpenSpec.upto rsDecodesSpec)

end Rows
end Go.Proofs.Ytddmifbgbmjdaab
