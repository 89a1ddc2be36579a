/- For every chain: leaf.Fold tells what the reference tells, and its rows are the caller's own. The contract of the function is proved by an abstract machine that is sound for Go's operations in any order. -/
import Derived.Test.YtbeafnkcimfeeaaDoorRows
import Derived.Test.YtbeafnkcimfeeaaDoorPfH56
import Derived.Test.YtbeafnkcimfeeaaDoorPfLaid
import Derived.Test.YtbeafnkcimfeeaaDoorTie
import Derived.Test.YtbeafnkcimfeeaaDoorCards
import Derived.WalkKit
import Derived.ProofKit
import Derived.OpenShut
import Derived.ShutString
import Derived.ChangeOld
import Derived.Below
import Derived.Carry
import Derived.SizedLaws
namespace Go.Proofs.YtbeafnkcimfeeaaDoor.leafFolds
open Go.ChangeShapes Go.WideShapes Go.ChangeAt Go.RowKit
open Go.ChangeMaps (open_string shut_string)
set_option linter.unusedVariables false
theorem own : ownKnob Tryd.prog.godebug = none := by kernel_rfl
theorem laidOut : laidOutB Tryd.prog = true := by kernel_rfl
set_option maxRecDepth 100000 in
theorem lifted (os : Os) (started : os.Started) (H : Type) (enc : TypeId × Value → H) :
    ReturnsInHanded {} Tryd.checked os 3 .any (fun w args => (Rows.leafFoldsSpec.pre enc Tryd.prog Tryd.f3 [] false w args ∧ laidMetH Tryd.prog AM.TT.laidL w) ∧ sizedMet enc Tryd.prog Tryd.f3 (OpenSpec.ofChange Rows.leafFoldsSpec) false w args) (Rows.leafFoldsSpec.post enc Tryd.prog Tryd.f3 false true false false) := by
  refine returnsInHanded_of_change_and (C := Tryd.checked) (X := fun w _ => laidMetH Tryd.prog AM.TT.laidL w) (fun _ _ _ hh h => h.of_heap hh) own started (by kernel_rfl) Tryd.func3
    (ChangeSpec.witness_at (enc := enc) (C := Tryd.checked) (os := os) (X := fun w _ => laidMetH Tryd.prog AM.TT.laidL w) false (AM.TT.laidWorld os) #[.slice none 0 0] 12 rfl (by kernel_rfl) (by kernel_rfl) (by kernel_rfl) (by kernel_rfl) (by kernel_rfl) (AM.TT.laidWorld_met os _)) ?_
  intro W base args ds gs before hval0 hW hcnd hsz0 hL _
  have hg : AM.GK (AM.allK W) := AM.TT.gk_of_laid hL
  have hval : ∀ (j : Nat) t v, Tryd.f3.params[j]? = some t → args[j]? = some v → Value.okWide Tryd.prog W .any base t v := hval0
  have hW' := hW
  obtain ⟨p, q, hA0, hV, rfl, hfz, hnd⟩ := hW
  have hA : DataW.TrodAll enc Tryd.prog W 0 (fun _ => true) true Tryd.f3.params.toList args.toList ds p := hA0
  rw [Tryd.params3] at hA hval
  obtain ⟨v0, vs0, d0, ds0, p0, q0, hargs, rfl, rfl, h0, r0⟩ := trodAll_cons hA
  obtain ⟨rfl, rfl, rfl⟩ := trodAll_nil r0
  obtain rfl : args = #[v0] := by cases args; simp_all
  obtain ⟨rfl, rfl⟩ := trodVars_none hV
  have hsz : (DataW.weightsEach Tryd.prog [22] [d0]).all (· ≤ reachBytes) = true := hsz0
  rw [List.all_eq_true] at hsz
  have hv0 := hval 0 22 v0 rfl rfl
  have k0 := h0
  have lt0 : ∀ x ∈ p0, x.block < W.heap.size := by obtain ⟨m, hm⟩ := k0; exact DataW.trod_lt m _ _ _ hm
  have w0 : ∀ m ∈ d0.weights Tryd.prog 22, m ≤ reachBytes := fun m hm => of_decide_eq_true (hsz m (DataW.weights_mem_each (j := 0) (t := 22) (d := d0) rfl rfl m hm))
  obtain ⟨c0, hc0, z0⟩ := AM.TT.arg_chain hv0 h0 w0
  clear hA0 hval0 hsz0
  refine (AM.TT.law_call (AM.TT.f3_calls c0 (fun hf => AM.TT.recOk_sz z0 hf)) hg (AM.TT.reps1 hc0)).mono fun e W' ⟨he, bel⟩ => ?_
  subst he
  exact ⟨_, rfl, _, _, _, [], _, [], hW', trodAll_mk1 (shut_bool Tryd.underlying4 _), (trodAll_cons_mk (Below.trod laidOut (by kernel_rfl) (of_decide_eq_true (by kernel_rfl)) k0 bel lt0) trodAll_mk0), rfl, bel.frame _, fun h => by cases h⟩
theorem over : Rows.leafFoldsRow.holds Tryd.pinned (OpenSpec.ofChange Rows.leafFoldsSpec) :=
  OpenClaim.holds_of_wide 3 Tryd.f3 rfl rfl rfl rfl rfl rfl rfl ⟨rfl, rfl, rfl, rfl, rfl⟩ rfl rfl rfl rfl rfl (by kernel_rfl) Tryd.func3 (by kernel_rfl)
    (of_decide_eq_true (by kernel_rfl)) (by unfold Func.isWrapper; first | (rw [if_pos (by decide +kernel)]; kernel_rfl) | (rw [if_neg (by decide +kernel)]; exact ⟨rfl, rfl⟩))
    (fun os started H enc _ => lifted os started H enc)
theorem proved : Rows.LeafFoldsSaid := over
theorem card : Rows.LeafFoldsCardSaid :=
  Claim7.holds_tied_plain_at .later [] [.handle] true (true, "79ebe65e9b1e09f4f94758a4b36191ec528ba2cf4280a7bad23045d56850fc97") true
    proved (fun _ h => by cases h) (by kernel_rfl) (fun _ h => by cases h) leafFolds_row_tie rfl ⟨rfl, rfl⟩ (by kernel_rfl) rfl
    (fun f fn hf hfn => by
      obtain rfl : f = 3 := Option.some.inj ((show Tryd.prog.funcNamed "rowlock/rowlocklaw07.LeafFolds" = some 3 by kernel_rfl).symm.trans hf) |>.symm
      obtain rfl : fn = Tryd.f3 := (Option.some.inj (Tryd.func3.symm.trans hfn)).symm
      exact ⟨by kernel_rfl, fun j t ht => by
        rw [Tryd.params3] at ht
        have h3 : t = 22 := by
          have : t ∈ [22] := by
            have := Array.mem_of_getElem? ht
            simpa using this
          simpa using this
        rcases h3 with rfl
        · exact (show Tryd.prog.wantsStandIn 22 = false by kernel_rfl)⟩)
    (by kernel_rfl)
end Go.Proofs.YtbeafnkcimfeeaaDoor.leafFolds
namespace Go.Proofs.YtbeafnkcimfeeaaDoor
/-- The card, under a short name, for the claim. -/
theorem leafFolds_holds : Rows.LeafFoldsCardSaid := leafFolds.card
end Go.Proofs.YtbeafnkcimfeeaaDoor
