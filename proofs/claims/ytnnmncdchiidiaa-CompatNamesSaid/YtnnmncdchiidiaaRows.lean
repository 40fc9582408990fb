/-
  No cell of these rows narrows 'for every input' (looked for: loops, veiled, ifaces, maps, wideKeys, modest, calm, conditions, laid).
  DERIVED. THE GIVEN ROWS OF THIS SEAT. 3 by the template 'for every input the law returns true; each argument reads behind the call as it read before'; 0 by the template 'total and deterministic' (their statements: YtnnmncdchiidiaaTotals.lean).
  GIVEN WITH THE SEED: the statements are not yours to turn. If you find one false, say at which input.
  Laid BY PROGRAM, IN A SANDBOX (cutbox-rows.mjs): the forced cells as the released guide's own fill.sh prints them over the translation 68df9fb496ad048d… (all of the seat's roots in one cut). By AI agents, Wed Nov 11 2026. No macro, syntax, notation, axiom, sorry.
-/
import Derived.Test.YtnnmncdchiidiaaChecked
import GoSem.Claim
import GoSem.ClaimJoined
import GoSem.ClaimMapViews
import Derived.JoinedTies
import Derived.KernelRfl
namespace Go.Proofs.Ytnnmncdchiidiaa
/- THE CELL 'sum', in the pinned program and in every row, IS THE sha256 OF THE DUMP (.gsa) THAT YtnnmncdchiidiaaProg.lean LOADS. Nothing in Lean hashes anything: it is a label: what it is worth is what the hold of that sum in a sandbox is worth. -/
noncomputable def Try.pinned : Pinned := { name := "ytnnmncdchiidiaa", sum := "68df9fb496ad048d20985354ab8b4e807360598b4b2ee52febf4ef59d101a3ab", checked := Try.checked }
namespace Rows
def none {H : Type} : Left H := { results := [], args := [] }

/-- 'sigillaw10.StrictNames': WHATEVER THE INPUT: true; the input reads as it did. -/
def strictNamesSpec : ChangeSpec := { name := "strictNames", fn := fun _ => fun
  | [] => { results := [.lit (.bool true)], args := [] }
  | _ => none }
def strictNamesRow : OpenClaim := { program := "ytnnmncdchiidiaa", sum := "68df9fb496ad048d20985354ab8b4e807360598b4b2ee52febf4ef59d101a3ab", func := "sigil/sigillaw10.StrictNames", spec := "strictNames", apart := false }
def StrictNamesSaid : Prop := strictNamesRow.holds Try.pinned (OpenSpec.ofChange strictNamesSpec)

/-- ITS FALSE NEIGHBOUR: 'it returns false'. Refute it at one input. -/
def strictNamesWrong : ChangeSpec := { name := "strictNames", fn := fun _ => fun
  | [] => { results := [.lit (.bool false)], args := [] }
  | _ => none }
def StrictNamesWrongFalsely : Prop := strictNamesRow.holds Try.pinned (OpenSpec.ofChange strictNamesWrong)

/-- 'sigillaw11.LooseNames': WHATEVER THE INPUT: true; the input reads as it did. -/
def looseNamesSpec : ChangeSpec := { name := "looseNames", fn := fun _ => fun
  | [] => { results := [.lit (.bool true)], args := [] }
  | _ => none }
def looseNamesRow : OpenClaim := { program := "ytnnmncdchiidiaa", sum := "68df9fb496ad048d20985354ab8b4e807360598b4b2ee52febf4ef59d101a3ab", func := "sigil/sigillaw11.LooseNames", spec := "looseNames", apart := false }
def LooseNamesSaid : Prop := looseNamesRow.holds Try.pinned (OpenSpec.ofChange looseNamesSpec)

/-- ITS FALSE NEIGHBOUR: 'it returns false'. Refute it at one input. -/
def looseNamesWrong : ChangeSpec := { name := "looseNames", fn := fun _ => fun
  | [] => { results := [.lit (.bool false)], args := [] }
  | _ => none }
def LooseNamesWrongFalsely : Prop := looseNamesRow.holds Try.pinned (OpenSpec.ofChange looseNamesWrong)

/-- 'sigillaw14.CompatNames': WHATEVER THE INPUT: true; the input reads as it did. -/
def compatNamesSpec : ChangeSpec := { name := "compatNames", fn := fun _ => fun
  | [] => { results := [.lit (.bool true)], args := [] }
  | _ => none }
def compatNamesRow : OpenClaim := { program := "ytnnmncdchiidiaa", sum := "68df9fb496ad048d20985354ab8b4e807360598b4b2ee52febf4ef59d101a3ab", func := "sigil/sigillaw14.CompatNames", spec := "compatNames", apart := false }
def CompatNamesSaid : Prop := compatNamesRow.holds Try.pinned (OpenSpec.ofChange compatNamesSpec)

/-- ITS FALSE NEIGHBOUR: 'it returns false'. Refute it at one input. -/
def compatNamesWrong : ChangeSpec := { name := "compatNames", fn := fun _ => fun
  | [] => { results := [.lit (.bool false)], args := [] }
  | _ => none }
def CompatNamesWrongFalsely : Prop := compatNamesRow.holds Try.pinned (OpenSpec.ofChange compatNamesWrong)

/- THE SECOND FORM. 'bulk': how many values and letters a reading holds, each counted each time it is reached (what is shared counts as often as it is met; a slice's spare places count too). A statement '..UptoSaid' is the law's where the arguments, and the package variables that the reading takes, are together of bulk at most 1048576: NARROWER than '..Said'. Prove '..Said' where nothing that the law and all that it calls make is longer than what came in: it says more and counts as full. Else prove '..UptoSaid'. A law counts once. -/
mutual
def uptoBulk {H : Type} : DataW H → Nat
  | .lit (.string bytes) => bytes.length + 1
  | .lit _ => 1
  | .nil => 1
  | .ptr d => uptoBulk d + 1
  | .slice elems spare => uptoBulkAll elems + uptoBulkAll spare + 1
  | .agg parts => uptoBulkAll parts + 1
  | .iface _ d => uptoBulk d + 1
  | .map entries => uptoBulkEntries entries + 1
  | .held _ => 1
def uptoBulkAll {H : Type} : List (DataW H) → Nat
  | [] => 0
  | d :: r => uptoBulk d + uptoBulkAll r
def uptoBulkEntries {H : Type} : List (Lit × DataW H) → Nat
  | [] => 0
  | x :: r => uptoBulkEntry x + uptoBulkEntries r
def uptoBulkEntry {H : Type} : Lit × DataW H → Nat
  | (.string bytes, d) => bytes.length + uptoBulk d + 1
  | (_, d) => uptoBulk d + 1
 end
def uptoSmall : (H : Type) → List (DataW H) → Bool := fun _ ds => decide (uptoBulkAll ds ≤ 1048576)
def OpenSpec.upto (s : _root_.Go.ChangeSpec) : _root_.Go.OpenSpec := { _root_.Go.OpenSpec.ofChange s with cond := some uptoSmall }

/-- 'sigillaw10.StrictNames', WHERE WHAT IT READS IS OF BULK AT MOST 1048576: true; the input reads as it did. -/
def strictNamesUptoRow : OpenClaim := { program := "ytnnmncdchiidiaa", sum := "68df9fb496ad048d20985354ab8b4e807360598b4b2ee52febf4ef59d101a3ab", func := "sigil/sigillaw10.StrictNames", spec := "strictNames", apart := false, narrowed := true }
def StrictNamesUptoSaid : Prop := strictNamesUptoRow.holds Try.pinned (OpenSpec.upto strictNamesSpec)

/-- 'sigillaw11.LooseNames', WHERE WHAT IT READS IS OF BULK AT MOST 1048576: true; the input reads as it did. -/
def looseNamesUptoRow : OpenClaim := { program := "ytnnmncdchiidiaa", sum := "68df9fb496ad048d20985354ab8b4e807360598b4b2ee52febf4ef59d101a3ab", func := "sigil/sigillaw11.LooseNames", spec := "looseNames", apart := false, narrowed := true }
def LooseNamesUptoSaid : Prop := looseNamesUptoRow.holds Try.pinned (OpenSpec.upto looseNamesSpec)

/-- 'sigillaw14.CompatNames', WHERE WHAT IT READS IS OF BULK AT MOST 1048576: true; the input reads as it did. -/
def compatNamesUptoRow : OpenClaim := { program := "ytnnmncdchiidiaa", sum := "68df9fb496ad048d20985354ab8b4e807360598b4b2ee52febf4ef59d101a3ab", func := "sigil/sigillaw14.CompatNames", spec := "compatNames", apart := false, narrowed := true }
def CompatNamesUptoSaid : Prop := compatNamesUptoRow.holds Try.pinned (OpenSpec.upto compatNamesSpec)

end Rows
end Go.Proofs.Ytnnmncdchiidiaa
