/- Contracts of the functions and their models, by the abstract machine. -/
import Derived.Test.YtbeafnkcimfeeaaGreatDoorPfH10
namespace Go.Proofs.YtbeafnkcimfeeaaGreatDoor.AM.TT
set_option linter.unusedVariables false
set_option linter.unusedSimpArgs false
open Go Go.Proofs.YtbeafnkcimfeeaaGreatDoor.AM Go.Proofs
set_option linter.unusedSimpArgs false
set_option linter.unusedVariables false
attribute [local irreducible] RunL AWp StepK OpK thenQ blockQ noGotoQ fnQ fnEQ
def b0 : Rec := ⟨1, [], [], true, 0, [⟨[97], []⟩, ⟨[98], []⟩, ⟨[99], []⟩], [], [], [], 0, noHold, noRef⟩
def p0 : Page := ⟨3, ⟨1, 1⟩, [b0], [], true, baseV b0, noIView⟩
end Go.Proofs.YtbeafnkcimfeeaaGreatDoor.AM.TT
