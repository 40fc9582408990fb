import Derived.Test.YtiebkbmnepgacaaGreatDoorMg
import Derived.Test.YtiebkbmnepgacaaGreatDoorMf
/-
  The package variables as the evaluator has them; the texts that known() loads.
-/
namespace Go.Proofs.YtiebkbmnepgacaaGreatDoor
open Ew
set_option linter.unusedVariables false
noncomputable section

def strA (s : String) : AV := strK s.toUTF8.data.toList 0 fun l n => .str l n
def rowsA : List AV := [.int .u8 0, .int .u8 127, .int .u8 0, .int .u8 0, .int .i64 0, .int .u8 194, .int .u8 223, .int .u8 128, .int .u8 191, .int .i64 1, .int .u8 224, .int .u8 224, .int .u8 160, .int .u8 191, .int .i64 2, .int .u8 225, .int .u8 236, .int .u8 128, .int .u8 191, .int .i64 2, .int .u8 237, .int .u8 237, .int .u8 128, .int .u8 159, .int .i64 2, .int .u8 238, .int .u8 239, .int .u8 128, .int .u8 191, .int .i64 2, .int .u8 240, .int .u8 240, .int .u8 144, .int .u8 191, .int .i64 3, .int .u8 241, .int .u8 243, .int .u8 128, .int .u8 191, .int .i64 3, .int .u8 244, .int .u8 244, .int .u8 128, .int .u8 143, .int .i64 3]
def saysA : List AV := [strA "", strA "a number that is not reserved", strA "another type", strA "another card", strA "another key", strA "fields into one oneof", strA "a message against none"]
/-- package variables alone -/
def globA : List (Nat × AO) := (0, .cells saysA 1 none false) :: (15, .cells rowsA 1 none false) :: (List.range 12).map fun i => (i + 1, .cells [.any] 104 none false)
def text1 : AV := .str [115, 121, 110, 116, 97, 120, 32, 61, 32, 34, 112, 114, 111, 116, 111, 51, 34, 59, 32, 109, 101, 115, 115, 97, 103, 101, 32, 77, 32, 123, 32, 78, 32, 110, 32, 61, 32, 49, 59, 32, 125, 32, 109, 101, 115, 115, 97, 103, 101, 32, 78, 32, 123, 32, 115, 105, 110, 116, 51, 50, 32, 120, 32, 61, 32, 55, 59, 32, 125] 69
def text2 : AV := .str [115, 121, 110, 116, 97, 120, 32, 61, 32, 34, 112, 114, 111, 116, 111, 51, 34, 59, 32, 109, 101, 115, 115, 97, 103, 101, 32, 77, 32, 123, 32, 78, 32, 110, 32, 61, 32, 49, 59, 32, 125, 32, 109, 101, 115, 115, 97, 103, 101, 32, 78, 32, 123, 32, 105, 110, 116, 51, 50, 32, 120, 32, 61, 32, 55, 59, 32, 125] 68
/-- package variables, and a row of one source -/
def srcA (t : AV) (b : Nat) : List (Nat × AO) := (b, .cells [strA "f", t] 90 none false) :: globA
end
end Go.Proofs.YtiebkbmnepgacaaGreatDoor
