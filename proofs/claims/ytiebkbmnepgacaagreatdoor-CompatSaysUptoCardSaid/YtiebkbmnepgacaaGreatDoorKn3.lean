import Derived.Test.YtiebkbmnepgacaaGreatDoorKn1
/-
  The load of the second text, run once.
-/
namespace Go.Proofs.YtiebkbmnepgacaaGreatDoor
open Ew
set_option linter.unusedVariables false
set_option maxRecDepth 1000000
noncomputable section

def v2 : AV := .tup [.ptr (posOf 1792) 6, .agg [.int .i64 0, .int .i64 0, .int .i64 0, .str [] 0]]
def fin2 : List (Nat × AO) := [
  (1791, .cells [.nilp] 121 none true),
  (1792, .cells [.sl (posOf 1787) 0 1 1 true, .sl (posOf 2193) 0 1 0 false, .sl (posOf 2221) 0 2 0 false, .ptr (posOf 2227) 0, .ptr (posOf 1791) 0, .sl (posOf 2202) 0 1 0 false, .ptr (posOf 2380) 0, .ptr (posOf 1794) 0, .sl (posOf 3540) 0 1 0 false] 79 none true),
  (1794, .cells [.nilp] 127 none true),
  (2114, .cells [.int .i64 1, .str [] 0, .str [78] 1, .str [110] 1, .int .i64 1, .int .i64 0] 165 (some 6) true),
  (2185, .cells [.int .i64 1, .str [] 0, .str [105, 110, 116, 51, 50] 5, .str [120] 1, .int .i64 7, .int .i64 0] 165 (some 6) true),
  (2188, .cells [.str [77] 1, .sl (posOf 2114) 0 1 0 false, .nils, .nils, .nils, .nils, .nils, .str [78] 1, .sl (posOf 2185) 0 1 0 false, .nils, .nils, .nils, .nils, .nils] 159 (some 7) true),
  (2193, .cells [.str [] 0, .nils, .sl (posOf 2188) 0 2 0 false, .nils] 137 (some 4) true),
  (2199, .cells [.int .i64 0, .bool true, .nilp, .nilp, .int .i64 1, .int .i64 1] 234 none true),
  (2200, .cells [.ptr (posOf 2199) 0] 231 none true),
  (2202, .cells [.ptr (posOf 2200) 0] 146 (some 1) true),
  (2221, .cells [.str [77] 1, .str [] 0, .int .i64 0, .bool false, .ptr (posOf 2188) 0, .nilp, .str [78] 1, .str [] 0, .int .i64 0, .bool false, .ptr (posOf 2188) 7, .nilp] 68 (some 6) true),
  (2225, .cells [.str [78] 1, .str [78] 1, .str [] 0, .int .i64 0, .bool false, .ptr (posOf 2188) 7, .nilp, .nilp, .nilp, .int .i64 1, .int .i64 1] 263 none true),
  (2226, .cells [.str [77] 1, .str [77] 1, .str [] 0, .int .i64 0, .bool false, .ptr (posOf 2188) 0, .nilp, .nilp, .ptr (posOf 2225) 0, .int .i64 2, .int .i64 2] 263 none true),
  (2227, .cells [.ptr (posOf 2226) 0] 118 none true),
  (2333, .cells [.int .i64 1, .str [110] 1, .str [110] 1, .int .i64 1, .int .i64 17, .str [78] 1, .int .i64 0, .int .i64 0] 26 (some 8) true),
  (2372, .cells [.int .i64 7, .str [120] 1, .str [120] 1, .int .i64 1, .int .i64 3, .str [] 0, .int .i64 0, .int .i64 0] 26 (some 8) true),
  (2378, .cells [.str [78] 1, .str [78] 1, .sl (posOf 2372) 0 1 0 false, .nils, .nils, .nils, .nilp, .nilp, .int .i64 1, .int .i64 1] 368 none true),
  (2379, .cells [.str [77] 1, .str [77] 1, .sl (posOf 2333) 0 1 0 false, .nils, .nils, .nils, .nilp, .ptr (posOf 2378) 0, .int .i64 2, .int .i64 2] 368 none true),
  (2380, .cells [.ptr (posOf 2379) 0] 124 none true),
  (3540, .cells [.str [46] 1, .str [115, 121, 110, 116, 97, 120, 32, 61, 32, 34, 112, 114, 111, 116, 111, 51, 34, 59, 10, 109, 101, 115, 115, 97, 103, 101, 32, 77, 32, 123, 10, 32, 32, 46, 78, 32, 110, 32, 61, 32, 49, 59, 10, 125, 10, 109, 101, 115, 115, 97, 103, 101, 32, 78, 32, 123, 10, 32, 32, 105, 110, 116, 51, 50, 32, 120, 32, 61, 32, 55, 59, 10, 125, 10] 74] 90 (some 2) true)]
theorem run2 : chk v2 fin2 3541 (Ew.ev (parC 20) 100000 (.cl (.fn 12 [.sl (posOf 1787) 0 1 1 true] (heapOf (srcA text2 1787) 1788)))) = true := by decide +kernel
def ran2 : Ran (parC 20) := { f := 12, vs := [.sl (posOf 1787) 0 1 1 true], ini := srcA text2 1787, nx0 := 1788, v := v2, fin := fin2, nx1 := 3541, n := 100000, run := run2, hini := by decide +kernel, hfin := by decide +kernel, hnx := by decide +kernel }
end
end Go.Proofs.YtiebkbmnepgacaaGreatDoor
