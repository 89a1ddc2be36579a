/- Contracts of the functions and their models, by the abstract machine. -/
import Derived.Test.YtbeafnkcimfeeaaGreatDoorPfH9
namespace Go.Proofs.YtbeafnkcimfeeaaGreatDoor.AM.TT
set_option linter.unusedVariables false
set_option linter.unusedSimpArgs false
open Go Go.Proofs.YtbeafnkcimfeeaaGreatDoor.AM Go.Proofs
set_option linter.unusedSimpArgs false
set_option linter.unusedVariables false
attribute [local irreducible] RunL AWp StepK OpK thenQ blockQ noGotoQ fnQ fnEQ
end Go.Proofs.YtbeafnkcimfeeaaGreatDoor.AM.TT
