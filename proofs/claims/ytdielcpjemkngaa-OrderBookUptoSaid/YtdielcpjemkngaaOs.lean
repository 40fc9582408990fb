/-
  The steps of a script, as they lie in memory. No function of the program.
-/
import Derived.Test.YtdielcpjemkngaaFx11
namespace Go.Proofs.Ytdielcpjemkngaa
open Go.RowKit

structure Op6 where
  kind : Int
  on : Int
  other : Int
  a : Int
  b : Int
  s : ByteArray
def opC (o : Op6) : List Value := [.int .i64 o.kind, .int .i64 o.on, .int .i64 o.other, .int .i64 o.a, .int .i64 o.b, .string o.s]
abbrev I64 (x : Int) : Prop := -9223372036854775808 ≤ x ∧ x ≤ 9223372036854775807
def OpOk (o : Op6) : Prop := I64 o.on ∧ I64 o.other ∧ I64 o.a ∧ I64 o.b
abbrev OpsAt (w : World) (a : Option Addr) (l : List Op6) : Prop := Elems w a 6 opC l

end Go.Proofs.Ytdielcpjemkngaa
