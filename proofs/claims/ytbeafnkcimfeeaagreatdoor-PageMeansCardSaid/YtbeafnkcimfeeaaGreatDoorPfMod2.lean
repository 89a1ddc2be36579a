/- Contracts of the functions and their models, by the abstract machine. -/
import Derived.Test.YtbeafnkcimfeeaaGreatDoorPfEnc
/- Models (2): plans. -/
namespace Go.Proofs.YtbeafnkcimfeeaaGreatDoor.AM.TT
set_option linter.unusedVariables false
set_option linter.unusedSimpArgs false
def beyondP (p : Page) (a : Above) (k : Str) (w : Bool) : Plan :=
  if lt k (lowP p) then plan 3
  else if w && a.some && !a.view.held && hasI a.view (highP p) && !thereE a.view.ents (highP p) then ⟨4, 0, ⟨highP p, rightP p⟩, noHold⟩
  else ⟨2, rightP p, noEntry, noHold⟩
def upkeepP (p : Page) (a : Above) (l : Limits) : Plan × Bool :=
  if l.chain < p.chain.length then (plan 6, true)
  else if l.rows < sizeP p ∧ p.n = 0 then (plan 8, true)
  else if l.rows < sizeP p then (plan 7, true)
  else if !p.leaf || decide (0 < sizeP p) || !a.some || a.view.held then (plan 0, false)
  else match hold4 a.view p.n with | some h => (⟨9, 0, noEntry, h⟩, true) | none => (⟨9, 0, noEntry, noHold⟩, false)
def decideP (p : Page) (a : Above) (k : Str) (l : Limits) (w : Bool) : Plan :=
  if p.leaf && p.rows.gone then plan 3
  else if w && !p.leaf && p.inner.held then ⟨5, 0, noEntry, p.inner.hold⟩
  else if !hasP p k then beyondP p a k w
  else if w && (upkeepP p a l).2 then (upkeepP p a l).1
  else if p.leaf then plan 10
  else match childI p.inner k with | some e => ⟨1, e.page, noEntry, noHold⟩ | none => plan 3
end Go.Proofs.YtbeafnkcimfeeaaGreatDoor.AM.TT
