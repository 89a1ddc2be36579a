/- Contracts of the functions and their models, by the abstract machine. -/
import Derived.Test.YtbeafnkcimfeeaaGreatDoorPfH19
import Derived.Test.YtbeafnkcimfeeaaGreatDoorPfInn
import Derived.Test.YtbeafnkcimfeeaaGreatDoorPfMod4
namespace Go.Proofs.YtbeafnkcimfeeaaGreatDoor.AM.TT
set_option linter.unusedVariables false
set_option linter.unusedSimpArgs false
open Go Go.Proofs.YtbeafnkcimfeeaaGreatDoor.AM Go.Proofs
set_option linter.unusedSimpArgs false
set_option linter.unusedVariables false
attribute [local irreducible] RunL AWp StepK OpK thenQ blockQ noGotoQ fnQ fnEQ
def encP (x : Except Int Page) : DV := match x with | .ok p => .tup [.agg (epg p), .nilI] | .error c => .tup [.agg (epg noPage), EE c]
theorem f27_calls_all (n : Int) (h : Ref) (l : List Rec) (rf : List Ref) (hs : szL l l.length ≤ 900000) (hsI : szI l l.length ≤ 900000) (he : ∀ r ∈ l, r.ents.length ≤ 1000000) (hr : rf.length ≤ 1000000) : CallsD Tryz.prog 27 [I n, .agg (ef h), .lst 15 (ecs l), .lst 2 (efs rf)] (encP (ofP n h l rf)) := by
  unfold ofP
  cases hb : l[l.length - 1]? with
  | some b =>
    dsimp only
    by_cases hk : b.kind = 1
    · rw [if_pos (by simpa using hk)]
      have := f27_calls_leaf n h l rf b hb hk hs he hr
      cases hf : foldL l <;> rw [hf] at this <;> exact this
    · rw [if_neg (by simpa using hk)]
      have := f27_calls_inner n h l rf (fun b' hb' => by rw [hb] at hb'; cases hb'; exact hk) hs hsI he hr
      cases hf : foldI l <;> rw [hf] at this <;> exact this
  | none =>
    dsimp only
    rw [if_neg (by simp)]
    have := f27_calls_inner n h l rf (fun b' hb' => by rw [hb] at hb'; cases hb') hs hsI he hr
    cases hf : foldI l <;> rw [hf] at this <;> exact this
end Go.Proofs.YtbeafnkcimfeeaaGreatDoor.AM.TT
