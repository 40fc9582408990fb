import Derived.Test.YtiebkbmnepgacaaGreatDoorKn1
/-
  The load of the first text, run once.
-/
namespace Go.Proofs.YtiebkbmnepgacaaGreatDoor
open Ew
set_option linter.unusedVariables false
set_option maxRecDepth 1000000
noncomputable section

def v1 : AV := .tup [.ptr (posOf 25) 6, .agg [.int .i64 0, .int .i64 0, .int .i64 0, .str [] 0]]
def fin1 : List (Nat × AO) := [
  (24, .cells [.nilp] 121 none true),
  (25, .cells [.sl (posOf 20) 0 1 1 true, .sl (posOf 427) 0 1 0 false, .sl (posOf 455) 0 2 0 false, .ptr (posOf 461) 0, .ptr (posOf 24) 0, .sl (posOf 436) 0 1 0 false, .ptr (posOf 618) 0, .ptr (posOf 27) 0, .sl (posOf 1785) 0 1 0 false] 79 none true),
  (27, .cells [.nilp] 127 none true),
  (348, .cells [.int .i64 1, .str [] 0, .str [78] 1, .str [110] 1, .int .i64 1, .int .i64 0] 165 (some 6) true),
  (419, .cells [.int .i64 1, .str [] 0, .str [115, 105, 110, 116, 51, 50] 6, .str [120] 1, .int .i64 7, .int .i64 0] 165 (some 6) true),
  (422, .cells [.str [77] 1, .sl (posOf 348) 0 1 0 false, .nils, .nils, .nils, .nils, .nils, .str [78] 1, .sl (posOf 419) 0 1 0 false, .nils, .nils, .nils, .nils, .nils] 159 (some 7) true),
  (427, .cells [.str [] 0, .nils, .sl (posOf 422) 0 2 0 false, .nils] 137 (some 4) true),
  (433, .cells [.int .i64 0, .bool true, .nilp, .nilp, .int .i64 1, .int .i64 1] 234 none true),
  (434, .cells [.ptr (posOf 433) 0] 231 none true),
  (436, .cells [.ptr (posOf 434) 0] 146 (some 1) true),
  (455, .cells [.str [77] 1, .str [] 0, .int .i64 0, .bool false, .ptr (posOf 422) 0, .nilp, .str [78] 1, .str [] 0, .int .i64 0, .bool false, .ptr (posOf 422) 7, .nilp] 68 (some 6) true),
  (459, .cells [.str [78] 1, .str [78] 1, .str [] 0, .int .i64 0, .bool false, .ptr (posOf 422) 7, .nilp, .nilp, .nilp, .int .i64 1, .int .i64 1] 263 none true),
  (460, .cells [.str [77] 1, .str [77] 1, .str [] 0, .int .i64 0, .bool false, .ptr (posOf 422) 0, .nilp, .nilp, .ptr (posOf 459) 0, .int .i64 2, .int .i64 2] 263 none true),
  (461, .cells [.ptr (posOf 460) 0] 118 none true),
  (567, .cells [.int .i64 1, .str [110] 1, .str [110] 1, .int .i64 1, .int .i64 17, .str [78] 1, .int .i64 0, .int .i64 0] 26 (some 8) true),
  (610, .cells [.int .i64 7, .str [120] 1, .str [120] 1, .int .i64 1, .int .i64 7, .str [] 0, .int .i64 0, .int .i64 0] 26 (some 8) true),
  (616, .cells [.str [78] 1, .str [78] 1, .sl (posOf 610) 0 1 0 false, .nils, .nils, .nils, .nilp, .nilp, .int .i64 1, .int .i64 1] 368 none true),
  (617, .cells [.str [77] 1, .str [77] 1, .sl (posOf 567) 0 1 0 false, .nils, .nils, .nils, .nilp, .ptr (posOf 616) 0, .int .i64 2, .int .i64 2] 368 none true),
  (618, .cells [.ptr (posOf 617) 0] 124 none true),
  (1785, .cells [.str [46] 1, .str [115, 121, 110, 116, 97, 120, 32, 61, 32, 34, 112, 114, 111, 116, 111, 51, 34, 59, 10, 109, 101, 115, 115, 97, 103, 101, 32, 77, 32, 123, 10, 32, 32, 46, 78, 32, 110, 32, 61, 32, 49, 59, 10, 125, 10, 109, 101, 115, 115, 97, 103, 101, 32, 78, 32, 123, 10, 32, 32, 115, 105, 110, 116, 51, 50, 32, 120, 32, 61, 32, 55, 59, 10, 125, 10] 75] 90 (some 2) true)]
theorem run1 : chk v1 fin1 1786 (Ew.ev (parC 20) 100000 (.cl (.fn 12 [.sl (posOf 20) 0 1 1 true] (heapOf (srcA text1 20) 21)))) = true := by decide +kernel
def ran1 : Ran (parC 20) := { f := 12, vs := [.sl (posOf 20) 0 1 1 true], ini := srcA text1 20, nx0 := 21, v := v1, fin := fin1, nx1 := 1786, n := 100000, run := run1, hini := by decide +kernel, hfin := by decide +kernel, hnx := by decide +kernel }
end
end Go.Proofs.YtiebkbmnepgacaaGreatDoor
