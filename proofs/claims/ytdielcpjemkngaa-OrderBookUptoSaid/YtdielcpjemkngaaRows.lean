/-
  No cell of these rows narrows 'for every input' (looked for: loops, veiled, ifaces, maps, wideKeys, modest, calm, conditions, laid).
  DERIVED. THE GIVEN ROWS OF THIS SEAT. 13 by the template 'for every input the law returns true; each argument reads behind the call as it read before'; 0 by the template 'total and deterministic' (their statements: YtdielcpjemkngaaTotals.lean).
  GIVEN WITH THE SEED: the statements are not yours to turn. If you find one false, say at which input.
  Laid BY PROGRAM, IN A SANDBOX (cutbox-rows.mjs): the forced cells as the released guide's own fill.sh prints them over the translation d9aceba7b7f39369… (all of the seat's roots in one cut). By AI agents, Wed Nov 11 2026. No macro, syntax, notation, axiom, sorry.
-/
import Derived.Test.YtdielcpjemkngaaChecked
import GoSem.Claim
import GoSem.ClaimJoined
import GoSem.ClaimMapViews
import Derived.JoinedTies
import Derived.KernelRfl
namespace Go.Proofs.Ytdielcpjemkngaa
/- THE CELL 'sum', in the pinned program and in every row, IS THE sha256 OF THE DUMP (.gsa) THAT YtdielcpjemkngaaProg.lean LOADS. Nothing in Lean hashes anything: it is a label: what it is worth is what the hold of that sum in a sandbox is worth. -/
noncomputable def Try.pinned : Pinned := { name := "ytdielcpjemkngaa", sum := "d9aceba7b7f3936938dfd54965a64236f6d4c7b49c2717b175ca84d527106e76", checked := Try.checked }
namespace Rows
def none {H : Type} : Left H := { results := [], args := [] }

/-- 'sigillaw1.OrderUnsigned': WHATEVER THE INPUT: true; the input reads as it did. -/
def orderUnsignedSpec : ChangeSpec := { name := "orderUnsigned", fn := fun _ => fun
  | [d] => { results := [.lit (.bool true)], args := [d] }
  | _ => none }
def orderUnsignedRow : OpenClaim := { program := "ytdielcpjemkngaa", sum := "d9aceba7b7f3936938dfd54965a64236f6d4c7b49c2717b175ca84d527106e76", func := "sigil/sigillaw1.OrderUnsigned", spec := "orderUnsigned", unfollowed := true, recurses := true, apart := false }
def OrderUnsignedSaid : Prop := orderUnsignedRow.holds Try.pinned (OpenSpec.ofChange orderUnsignedSpec)

/-- ITS FALSE NEIGHBOUR: 'it returns false'. Refute it at one input. -/
def orderUnsignedWrong : ChangeSpec := { name := "orderUnsigned", fn := fun _ => fun
  | [d] => { results := [.lit (.bool false)], args := [d] }
  | _ => none }
def OrderUnsignedWrongFalsely : Prop := orderUnsignedRow.holds Try.pinned (OpenSpec.ofChange orderUnsignedWrong)

/-- 'sigillaw1.OrderBook': WHATEVER THE INPUT: true; the input reads as it did. -/
def orderBookSpec : ChangeSpec := { name := "orderBook", fn := fun _ => fun
  | [d1, d2] => { results := [.lit (.bool true)], args := [d1, d2] }
  | _ => none }
def orderBookRow : OpenClaim := { program := "ytdielcpjemkngaa", sum := "d9aceba7b7f3936938dfd54965a64236f6d4c7b49c2717b175ca84d527106e76", func := "sigil/sigillaw1.OrderBook", spec := "orderBook", unfollowed := true, recurses := true, apart := false }
def OrderBookSaid : Prop := orderBookRow.holds Try.pinned (OpenSpec.ofChange orderBookSpec)

/-- ITS FALSE NEIGHBOUR: 'it returns false'. Refute it at one input. -/
def orderBookWrong : ChangeSpec := { name := "orderBook", fn := fun _ => fun
  | [d1, d2] => { results := [.lit (.bool false)], args := [d1, d2] }
  | _ => none }
def OrderBookWrongFalsely : Prop := orderBookRow.holds Try.pinned (OpenSpec.ofChange orderBookWrong)

/-- 'sigillaw1.OrderWhile': WHATEVER THE INPUT: true; the input reads as it did. -/
def orderWhileSpec : ChangeSpec := { name := "orderWhile", fn := fun _ => fun
  | [d1, d2] => { results := [.lit (.bool true)], args := [d1, d2] }
  | _ => none }
def orderWhileRow : OpenClaim := { program := "ytdielcpjemkngaa", sum := "d9aceba7b7f3936938dfd54965a64236f6d4c7b49c2717b175ca84d527106e76", func := "sigil/sigillaw1.OrderWhile", spec := "orderWhile", unfollowed := true, recurses := true, apart := false }
def OrderWhileSaid : Prop := orderWhileRow.holds Try.pinned (OpenSpec.ofChange orderWhileSpec)

/-- ITS FALSE NEIGHBOUR: 'it returns false'. Refute it at one input. -/
def orderWhileWrong : ChangeSpec := { name := "orderWhile", fn := fun _ => fun
  | [d1, d2] => { results := [.lit (.bool false)], args := [d1, d2] }
  | _ => none }
def OrderWhileWrongFalsely : Prop := orderWhileRow.holds Try.pinned (OpenSpec.ofChange orderWhileWrong)

/-- 'sigillaw1.OrderAlgebra': WHATEVER THE INPUT: true; the input reads as it did. -/
def orderAlgebraSpec : ChangeSpec := { name := "orderAlgebra", fn := fun _ => fun
  | [d1, d2] => { results := [.lit (.bool true)], args := [d1, d2] }
  | _ => none }
def orderAlgebraRow : OpenClaim := { program := "ytdielcpjemkngaa", sum := "d9aceba7b7f3936938dfd54965a64236f6d4c7b49c2717b175ca84d527106e76", func := "sigil/sigillaw1.OrderAlgebra", spec := "orderAlgebra", unfollowed := true, recurses := true, apart := false }
def OrderAlgebraSaid : Prop := orderAlgebraRow.holds Try.pinned (OpenSpec.ofChange orderAlgebraSpec)

/-- ITS FALSE NEIGHBOUR: 'it returns false'. Refute it at one input. -/
def orderAlgebraWrong : ChangeSpec := { name := "orderAlgebra", fn := fun _ => fun
  | [d1, d2] => { results := [.lit (.bool false)], args := [d1, d2] }
  | _ => none }
def OrderAlgebraWrongFalsely : Prop := orderAlgebraRow.holds Try.pinned (OpenSpec.ofChange orderAlgebraWrong)

/-- 'sigillaw1.OrderPuts': WHATEVER THE INPUT: true; the input reads as it did. -/
def orderPutsSpec : ChangeSpec := { name := "orderPuts", fn := fun _ => fun
  | [d] => { results := [.lit (.bool true)], args := [d] }
  | _ => none }
def orderPutsRow : OpenClaim := { program := "ytdielcpjemkngaa", sum := "d9aceba7b7f3936938dfd54965a64236f6d4c7b49c2717b175ca84d527106e76", func := "sigil/sigillaw1.OrderPuts", spec := "orderPuts", unfollowed := true, recurses := true, apart := false }
def OrderPutsSaid : Prop := orderPutsRow.holds Try.pinned (OpenSpec.ofChange orderPutsSpec)

/-- ITS FALSE NEIGHBOUR: 'it returns false'. Refute it at one input. -/
def orderPutsWrong : ChangeSpec := { name := "orderPuts", fn := fun _ => fun
  | [d] => { results := [.lit (.bool false)], args := [d] }
  | _ => none }
def OrderPutsWrongFalsely : Prop := orderPutsRow.holds Try.pinned (OpenSpec.ofChange orderPutsWrong)

/-- 'sigillaw1.OrderDrops': WHATEVER THE INPUT: true; the input reads as it did. -/
def orderDropsSpec : ChangeSpec := { name := "orderDrops", fn := fun _ => fun
  | [d] => { results := [.lit (.bool true)], args := [d] }
  | _ => none }
def orderDropsRow : OpenClaim := { program := "ytdielcpjemkngaa", sum := "d9aceba7b7f3936938dfd54965a64236f6d4c7b49c2717b175ca84d527106e76", func := "sigil/sigillaw1.OrderDrops", spec := "orderDrops", unfollowed := true, recurses := true, apart := false }
def OrderDropsSaid : Prop := orderDropsRow.holds Try.pinned (OpenSpec.ofChange orderDropsSpec)

/-- ITS FALSE NEIGHBOUR: 'it returns false'. Refute it at one input. -/
def orderDropsWrong : ChangeSpec := { name := "orderDrops", fn := fun _ => fun
  | [d] => { results := [.lit (.bool false)], args := [d] }
  | _ => none }
def OrderDropsWrongFalsely : Prop := orderDropsRow.holds Try.pinned (OpenSpec.ofChange orderDropsWrong)

/-- 'sigillaw1.OrderPlaces': WHATEVER THE INPUT: true; the input reads as it did. -/
def orderPlacesSpec : ChangeSpec := { name := "orderPlaces", fn := fun _ => fun
  | [d] => { results := [.lit (.bool true)], args := [d] }
  | _ => none }
def orderPlacesRow : OpenClaim := { program := "ytdielcpjemkngaa", sum := "d9aceba7b7f3936938dfd54965a64236f6d4c7b49c2717b175ca84d527106e76", func := "sigil/sigillaw1.OrderPlaces", spec := "orderPlaces", unfollowed := true, recurses := true, apart := false }
def OrderPlacesSaid : Prop := orderPlacesRow.holds Try.pinned (OpenSpec.ofChange orderPlacesSpec)

/-- ITS FALSE NEIGHBOUR: 'it returns false'. Refute it at one input. -/
def orderPlacesWrong : ChangeSpec := { name := "orderPlaces", fn := fun _ => fun
  | [d] => { results := [.lit (.bool false)], args := [d] }
  | _ => none }
def OrderPlacesWrongFalsely : Prop := orderPlacesRow.holds Try.pinned (OpenSpec.ofChange orderPlacesWrong)

/-- 'sigillaw1.OrderKeys': WHATEVER THE INPUT: true; the input reads as it did. -/
def orderKeysSpec : ChangeSpec := { name := "orderKeys", fn := fun _ => fun
  | [d] => { results := [.lit (.bool true)], args := [d] }
  | _ => none }
def orderKeysRow : OpenClaim := { program := "ytdielcpjemkngaa", sum := "d9aceba7b7f3936938dfd54965a64236f6d4c7b49c2717b175ca84d527106e76", func := "sigil/sigillaw1.OrderKeys", spec := "orderKeys", unfollowed := true, recurses := true, apart := false }
def OrderKeysSaid : Prop := orderKeysRow.holds Try.pinned (OpenSpec.ofChange orderKeysSpec)

/-- ITS FALSE NEIGHBOUR: 'it returns false'. Refute it at one input. -/
def orderKeysWrong : ChangeSpec := { name := "orderKeys", fn := fun _ => fun
  | [d] => { results := [.lit (.bool false)], args := [d] }
  | _ => none }
def OrderKeysWrongFalsely : Prop := orderKeysRow.holds Try.pinned (OpenSpec.ofChange orderKeysWrong)

/-- 'sigillaw1.OrderSets': WHATEVER THE INPUT: true; the input reads as it did. -/
def orderSetsSpec : ChangeSpec := { name := "orderSets", fn := fun _ => fun
  | [d] => { results := [.lit (.bool true)], args := [d] }
  | _ => none }
def orderSetsRow : OpenClaim := { program := "ytdielcpjemkngaa", sum := "d9aceba7b7f3936938dfd54965a64236f6d4c7b49c2717b175ca84d527106e76", func := "sigil/sigillaw1.OrderSets", spec := "orderSets", unfollowed := true, recurses := true, apart := false }
def OrderSetsSaid : Prop := orderSetsRow.holds Try.pinned (OpenSpec.ofChange orderSetsSpec)

/-- ITS FALSE NEIGHBOUR: 'it returns false'. Refute it at one input. -/
def orderSetsWrong : ChangeSpec := { name := "orderSets", fn := fun _ => fun
  | [d] => { results := [.lit (.bool false)], args := [d] }
  | _ => none }
def OrderSetsWrongFalsely : Prop := orderSetsRow.holds Try.pinned (OpenSpec.ofChange orderSetsWrong)

/-- 'sigillaw1.OrderRuns': WHATEVER THE INPUT: true; the input reads as it did. -/
def orderRunsSpec : ChangeSpec := { name := "orderRuns", fn := fun _ => fun
  | [d] => { results := [.lit (.bool true)], args := [d] }
  | _ => none }
def orderRunsRow : OpenClaim := { program := "ytdielcpjemkngaa", sum := "d9aceba7b7f3936938dfd54965a64236f6d4c7b49c2717b175ca84d527106e76", func := "sigil/sigillaw1.OrderRuns", spec := "orderRuns", unfollowed := true, recurses := true, apart := false }
def OrderRunsSaid : Prop := orderRunsRow.holds Try.pinned (OpenSpec.ofChange orderRunsSpec)

/-- ITS FALSE NEIGHBOUR: 'it returns false'. Refute it at one input. -/
def orderRunsWrong : ChangeSpec := { name := "orderRuns", fn := fun _ => fun
  | [d] => { results := [.lit (.bool false)], args := [d] }
  | _ => none }
def OrderRunsWrongFalsely : Prop := orderRunsRow.holds Try.pinned (OpenSpec.ofChange orderRunsWrong)

/-- 'sigillaw1.OrderInts': WHATEVER THE INPUT: true; the input reads as it did. -/
def orderIntsSpec : ChangeSpec := { name := "orderInts", fn := fun _ => fun
  | [d] => { results := [.lit (.bool true)], args := [d] }
  | _ => none }
def orderIntsRow : OpenClaim := { program := "ytdielcpjemkngaa", sum := "d9aceba7b7f3936938dfd54965a64236f6d4c7b49c2717b175ca84d527106e76", func := "sigil/sigillaw1.OrderInts", spec := "orderInts", unfollowed := true, recurses := true, apart := false }
def OrderIntsSaid : Prop := orderIntsRow.holds Try.pinned (OpenSpec.ofChange orderIntsSpec)

/-- ITS FALSE NEIGHBOUR: 'it returns false'. Refute it at one input. -/
def orderIntsWrong : ChangeSpec := { name := "orderInts", fn := fun _ => fun
  | [d] => { results := [.lit (.bool false)], args := [d] }
  | _ => none }
def OrderIntsWrongFalsely : Prop := orderIntsRow.holds Try.pinned (OpenSpec.ofChange orderIntsWrong)

/-- 'sigillaw1.OrderTexts': WHATEVER THE INPUT: true; the input reads as it did. -/
def orderTextsSpec : ChangeSpec := { name := "orderTexts", fn := fun _ => fun
  | [d] => { results := [.lit (.bool true)], args := [d] }
  | _ => none }
def orderTextsRow : OpenClaim := { program := "ytdielcpjemkngaa", sum := "d9aceba7b7f3936938dfd54965a64236f6d4c7b49c2717b175ca84d527106e76", func := "sigil/sigillaw1.OrderTexts", spec := "orderTexts", unfollowed := true, recurses := true, apart := false }
def OrderTextsSaid : Prop := orderTextsRow.holds Try.pinned (OpenSpec.ofChange orderTextsSpec)

/-- ITS FALSE NEIGHBOUR: 'it returns false'. Refute it at one input. -/
def orderTextsWrong : ChangeSpec := { name := "orderTexts", fn := fun _ => fun
  | [d] => { results := [.lit (.bool false)], args := [d] }
  | _ => none }
def OrderTextsWrongFalsely : Prop := orderTextsRow.holds Try.pinned (OpenSpec.ofChange orderTextsWrong)

/-- 'sigillaw1.OrderOld': WHATEVER THE INPUT: true; the input reads as it did. -/
def orderOldSpec : ChangeSpec := { name := "orderOld", fn := fun _ => fun
  | [d] => { results := [.lit (.bool true)], args := [d] }
  | _ => none }
def orderOldRow : OpenClaim := { program := "ytdielcpjemkngaa", sum := "d9aceba7b7f3936938dfd54965a64236f6d4c7b49c2717b175ca84d527106e76", func := "sigil/sigillaw1.OrderOld", spec := "orderOld", unfollowed := true, recurses := true, apart := false }
def OrderOldSaid : Prop := orderOldRow.holds Try.pinned (OpenSpec.ofChange orderOldSpec)

/-- ITS FALSE NEIGHBOUR: 'it returns false'. Refute it at one input. -/
def orderOldWrong : ChangeSpec := { name := "orderOld", fn := fun _ => fun
  | [d] => { results := [.lit (.bool false)], args := [d] }
  | _ => none }
def OrderOldWrongFalsely : Prop := orderOldRow.holds Try.pinned (OpenSpec.ofChange orderOldWrong)

/- THE SECOND FORM. 'bulk': how many values and letters a reading holds, each counted each time it is reached (what is shared counts as often as it is met; a slice's spare places count too). A statement '..UptoSaid' is the law's where the arguments, and the package variables that the reading takes, are together of bulk at most 1048576: NARROWER than '..Said'. Prove '..Said' where nothing that the law and all that it calls make is longer than what came in: it says more and counts as full. Else prove '..UptoSaid'. A law counts once. -/
mutual
def uptoBulk {H : Type} : DataW H → Nat
  | .lit (.string bytes) => bytes.length + 1
  | .lit _ => 1
  | .nil => 1
  | .ptr d => uptoBulk d + 1
  | .slice elems spare => uptoBulkAll elems + uptoBulkAll spare + 1
  | .agg parts => uptoBulkAll parts + 1
  | .iface _ d => uptoBulk d + 1
  | .map entries => uptoBulkEntries entries + 1
  | .held _ => 1
def uptoBulkAll {H : Type} : List (DataW H) → Nat
  | [] => 0
  | d :: r => uptoBulk d + uptoBulkAll r
def uptoBulkEntries {H : Type} : List (Lit × DataW H) → Nat
  | [] => 0
  | x :: r => uptoBulkEntry x + uptoBulkEntries r
def uptoBulkEntry {H : Type} : Lit × DataW H → Nat
  | (.string bytes, d) => bytes.length + uptoBulk d + 1
  | (_, d) => uptoBulk d + 1
 end
def uptoSmall : (H : Type) → List (DataW H) → Bool := fun _ ds => decide (uptoBulkAll ds ≤ 1048576)
def OpenSpec.upto (s : _root_.Go.ChangeSpec) : _root_.Go.OpenSpec := { _root_.Go.OpenSpec.ofChange s with cond := some uptoSmall }

/-- 'sigillaw1.OrderUnsigned', WHERE WHAT IT READS IS OF BULK AT MOST 1048576: true; the input reads as it did. -/
def orderUnsignedUptoRow : OpenClaim := { program := "ytdielcpjemkngaa", sum := "d9aceba7b7f3936938dfd54965a64236f6d4c7b49c2717b175ca84d527106e76", func := "sigil/sigillaw1.OrderUnsigned", spec := "orderUnsigned", unfollowed := true, recurses := true, apart := false, narrowed := true }
def OrderUnsignedUptoSaid : Prop := orderUnsignedUptoRow.holds Try.pinned (OpenSpec.upto orderUnsignedSpec)

/-- 'sigillaw1.OrderBook', WHERE WHAT IT READS IS OF BULK AT MOST 1048576: true; the input reads as it did. -/
def orderBookUptoRow : OpenClaim := { program := "ytdielcpjemkngaa", sum := "d9aceba7b7f3936938dfd54965a64236f6d4c7b49c2717b175ca84d527106e76", func := "sigil/sigillaw1.OrderBook", spec := "orderBook", unfollowed := true, recurses := true, apart := false, narrowed := true }
def OrderBookUptoSaid : Prop := orderBookUptoRow.holds Try.pinned (OpenSpec.upto orderBookSpec)

/-- 'sigillaw1.OrderWhile', WHERE WHAT IT READS IS OF BULK AT MOST 1048576: true; the input reads as it did. -/
def orderWhileUptoRow : OpenClaim := { program := "ytdielcpjemkngaa", sum := "d9aceba7b7f3936938dfd54965a64236f6d4c7b49c2717b175ca84d527106e76", func := "sigil/sigillaw1.OrderWhile", spec := "orderWhile", unfollowed := true, recurses := true, apart := false, narrowed := true }
def OrderWhileUptoSaid : Prop := orderWhileUptoRow.holds Try.pinned (OpenSpec.upto orderWhileSpec)

/-- 'sigillaw1.OrderAlgebra', WHERE WHAT IT READS IS OF BULK AT MOST 1048576: true; the input reads as it did. -/
def orderAlgebraUptoRow : OpenClaim := { program := "ytdielcpjemkngaa", sum := "d9aceba7b7f3936938dfd54965a64236f6d4c7b49c2717b175ca84d527106e76", func := "sigil/sigillaw1.OrderAlgebra", spec := "orderAlgebra", unfollowed := true, recurses := true, apart := false, narrowed := true }
def OrderAlgebraUptoSaid : Prop := orderAlgebraUptoRow.holds Try.pinned (OpenSpec.upto orderAlgebraSpec)

/-- 'sigillaw1.OrderPuts', WHERE WHAT IT READS IS OF BULK AT MOST 1048576: true; the input reads as it did. -/
def orderPutsUptoRow : OpenClaim := { program := "ytdielcpjemkngaa", sum := "d9aceba7b7f3936938dfd54965a64236f6d4c7b49c2717b175ca84d527106e76", func := "sigil/sigillaw1.OrderPuts", spec := "orderPuts", unfollowed := true, recurses := true, apart := false, narrowed := true }
def OrderPutsUptoSaid : Prop := orderPutsUptoRow.holds Try.pinned (OpenSpec.upto orderPutsSpec)

/-- 'sigillaw1.OrderDrops', WHERE WHAT IT READS IS OF BULK AT MOST 1048576: true; the input reads as it did. -/
def orderDropsUptoRow : OpenClaim := { program := "ytdielcpjemkngaa", sum := "d9aceba7b7f3936938dfd54965a64236f6d4c7b49c2717b175ca84d527106e76", func := "sigil/sigillaw1.OrderDrops", spec := "orderDrops", unfollowed := true, recurses := true, apart := false, narrowed := true }
def OrderDropsUptoSaid : Prop := orderDropsUptoRow.holds Try.pinned (OpenSpec.upto orderDropsSpec)

/-- 'sigillaw1.OrderPlaces', WHERE WHAT IT READS IS OF BULK AT MOST 1048576: true; the input reads as it did. -/
def orderPlacesUptoRow : OpenClaim := { program := "ytdielcpjemkngaa", sum := "d9aceba7b7f3936938dfd54965a64236f6d4c7b49c2717b175ca84d527106e76", func := "sigil/sigillaw1.OrderPlaces", spec := "orderPlaces", unfollowed := true, recurses := true, apart := false, narrowed := true }
def OrderPlacesUptoSaid : Prop := orderPlacesUptoRow.holds Try.pinned (OpenSpec.upto orderPlacesSpec)

/-- 'sigillaw1.OrderKeys', WHERE WHAT IT READS IS OF BULK AT MOST 1048576: true; the input reads as it did. -/
def orderKeysUptoRow : OpenClaim := { program := "ytdielcpjemkngaa", sum := "d9aceba7b7f3936938dfd54965a64236f6d4c7b49c2717b175ca84d527106e76", func := "sigil/sigillaw1.OrderKeys", spec := "orderKeys", unfollowed := true, recurses := true, apart := false, narrowed := true }
def OrderKeysUptoSaid : Prop := orderKeysUptoRow.holds Try.pinned (OpenSpec.upto orderKeysSpec)

/-- 'sigillaw1.OrderSets', WHERE WHAT IT READS IS OF BULK AT MOST 1048576: true; the input reads as it did. -/
def orderSetsUptoRow : OpenClaim := { program := "ytdielcpjemkngaa", sum := "d9aceba7b7f3936938dfd54965a64236f6d4c7b49c2717b175ca84d527106e76", func := "sigil/sigillaw1.OrderSets", spec := "orderSets", unfollowed := true, recurses := true, apart := false, narrowed := true }
def OrderSetsUptoSaid : Prop := orderSetsUptoRow.holds Try.pinned (OpenSpec.upto orderSetsSpec)

/-- 'sigillaw1.OrderRuns', WHERE WHAT IT READS IS OF BULK AT MOST 1048576: true; the input reads as it did. -/
def orderRunsUptoRow : OpenClaim := { program := "ytdielcpjemkngaa", sum := "d9aceba7b7f3936938dfd54965a64236f6d4c7b49c2717b175ca84d527106e76", func := "sigil/sigillaw1.OrderRuns", spec := "orderRuns", unfollowed := true, recurses := true, apart := false, narrowed := true }
def OrderRunsUptoSaid : Prop := orderRunsUptoRow.holds Try.pinned (OpenSpec.upto orderRunsSpec)

/-- 'sigillaw1.OrderInts', WHERE WHAT IT READS IS OF BULK AT MOST 1048576: true; the input reads as it did. -/
def orderIntsUptoRow : OpenClaim := { program := "ytdielcpjemkngaa", sum := "d9aceba7b7f3936938dfd54965a64236f6d4c7b49c2717b175ca84d527106e76", func := "sigil/sigillaw1.OrderInts", spec := "orderInts", unfollowed := true, recurses := true, apart := false, narrowed := true }
def OrderIntsUptoSaid : Prop := orderIntsUptoRow.holds Try.pinned (OpenSpec.upto orderIntsSpec)

/-- 'sigillaw1.OrderTexts', WHERE WHAT IT READS IS OF BULK AT MOST 1048576: true; the input reads as it did. -/
def orderTextsUptoRow : OpenClaim := { program := "ytdielcpjemkngaa", sum := "d9aceba7b7f3936938dfd54965a64236f6d4c7b49c2717b175ca84d527106e76", func := "sigil/sigillaw1.OrderTexts", spec := "orderTexts", unfollowed := true, recurses := true, apart := false, narrowed := true }
def OrderTextsUptoSaid : Prop := orderTextsUptoRow.holds Try.pinned (OpenSpec.upto orderTextsSpec)

/-- 'sigillaw1.OrderOld', WHERE WHAT IT READS IS OF BULK AT MOST 1048576: true; the input reads as it did. -/
def orderOldUptoRow : OpenClaim := { program := "ytdielcpjemkngaa", sum := "d9aceba7b7f3936938dfd54965a64236f6d4c7b49c2717b175ca84d527106e76", func := "sigil/sigillaw1.OrderOld", spec := "orderOld", unfollowed := true, recurses := true, apart := false, narrowed := true }
def OrderOldUptoSaid : Prop := orderOldUptoRow.holds Try.pinned (OpenSpec.upto orderOldSpec)

end Rows
end Go.Proofs.Ytdielcpjemkngaa
