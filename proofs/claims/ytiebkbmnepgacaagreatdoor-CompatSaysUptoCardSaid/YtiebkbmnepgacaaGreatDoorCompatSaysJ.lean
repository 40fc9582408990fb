import Derived.Test.YtiebkbmnepgacaaGreatDoorJo
import Derived.Test.YtiebkbmnepgacaaGreatDoorCompatSaysJ1
import Derived.Test.YtiebkbmnepgacaaGreatDoorCompatSaysJ2
import Derived.Test.YtiebkbmnepgacaaGreatDoorCompatSaysJ3
import Derived.Test.YtiebkbmnepgacaaGreatDoorCompatSaysJ4
import Derived.Test.YtiebkbmnepgacaaGreatDoorCompatSaysJ5
/-
  Closed facts of the row CompatSays, together.
-/
namespace Go.Proofs.YtiebkbmnepgacaaGreatDoor.compatSays
open Go
theorem closed : joinedFacts Tryz.prog 4 Tryz.f4 (Rows.OpenSpec.upto Rows.compatSaysSpec).bare Rows.compatSaysUptoRow = true := joined_of fact0 fact1 fact2 fact3 fact4 fact5 fact6 fact7 fact8 fact9 fact10 fact11 fact12 fact13 fact14 fact15 fact16 fact17 fact18 fact19 fact20 fact21 fact22 fact23 fact24 fact25 fact26 fact27 fact28 fact29 fact30 fact31
end Go.Proofs.YtiebkbmnepgacaaGreatDoor.compatSays
