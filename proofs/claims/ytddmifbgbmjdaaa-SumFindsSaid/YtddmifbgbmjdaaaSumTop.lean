/- Three laws of the checksum, walked: their arguments in the rows' order. -/
import Derived.Test.YtddmifbgbmjdaaaSumLaw
import Derived.Test.YtddmifbgbmjdaaaSumLaw2
set_option linter.unusedVariables false
set_option linter.unusedSimpArgs false
namespace Go.Proofs.Ytddmifbgbmjdaaa
open Go.RowKit
theorem sum_joins (v0 : Value) (a : List UInt8) (v1 : Value) (b : List UInt8) (w : World) (h0 : Bytes (· < w.heap.size) w v0 a) (h1 : Bytes (· < w.heap.size) w v1 b) :
    Calls Try.prog 3 #[v0, v1] w fun e w' => e = .returned (.bool true) ∧ Below w.heap.size w w' :=
  joins_calls v0 v1 a b w h0 h1 (sum_join a b)
theorem sum_zeros (v0 : Value) (a : List UInt8) (v1 : Value) (b : List UInt8) (v2 : Value) (c : List UInt8) (w : World) (h0 : Bytes (· < w.heap.size) w v0 a) (h1 : Bytes (· < w.heap.size) w v1 b) (h2 : Bytes (· < w.heap.size) w v2 c) :
    Calls Try.prog 5 #[v0, v1, v2] w fun e w' => e = .returned (.bool true) ∧ Below w.heap.size w w' :=
  zero_calls v0 v1 v2 a b c w h0 h1 h2
end Go.Proofs.Ytddmifbgbmjdaaa
