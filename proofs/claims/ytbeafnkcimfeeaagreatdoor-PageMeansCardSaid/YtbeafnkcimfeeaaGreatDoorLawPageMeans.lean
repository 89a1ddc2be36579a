/- For every number, head, chain and key: the page is the document's, or why it is none. The contract of the function is proved by an abstract machine that is sound for Go's operations in any order. -/
import Derived.Test.YtbeafnkcimfeeaaGreatDoorRows
import Derived.Test.YtbeafnkcimfeeaaGreatDoorPfH72
import Derived.Test.YtbeafnkcimfeeaaGreatDoorPfLaid
import Derived.Test.YtbeafnkcimfeeaaGreatDoorTie
import Derived.Test.YtbeafnkcimfeeaaGreatDoorCards
import Derived.WalkKit
import Derived.ProofKit
import Derived.OpenShut
import Derived.ShutString
import Derived.ChangeOld
import Derived.Below
import Derived.Carry
import Derived.SizedLaws
namespace Go.Proofs.YtbeafnkcimfeeaaGreatDoor.pageMeans
open Go.ChangeShapes Go.WideShapes Go.ChangeAt Go.RowKit
open Go.ChangeMaps (open_string shut_string)
set_option linter.unusedVariables false
theorem own : ownKnob Tryz.prog.godebug = none := by kernel_rfl
theorem laidOut : laidOutB Tryz.prog = true := by kernel_rfl
set_option maxRecDepth 100000 in
theorem lifted (os : Os) (started : os.Started) (H : Type) (enc : TypeId × Value → H) :
    ReturnsInHanded {} Tryz.checked os 5 .any (fun w args => (Rows.pageMeansSpec.pre enc Tryz.prog Tryz.f5 [] false w args ∧ laidMetH Tryz.prog AM.TT.laidL w) ∧ sizedMet enc Tryz.prog Tryz.f5 (OpenSpec.ofChange Rows.pageMeansSpec) false w args) (Rows.pageMeansSpec.post enc Tryz.prog Tryz.f5 false true false false) := by
  refine returnsInHanded_of_change_and (C := Tryz.checked) (X := fun w _ => laidMetH Tryz.prog AM.TT.laidL w) (fun _ _ _ hh h => h.of_heap hh) own started (by kernel_rfl) Tryz.func5
    (ChangeSpec.witness_at (enc := enc) (C := Tryz.checked) (os := os) (X := fun w _ => laidMetH Tryz.prog AM.TT.laidL w) false (AM.TT.laidWorld os) #[.int .i64 0, .agg #[.int .i64 0, .int .i64 0], .slice none 0 0, .string ByteArray.empty] 12 rfl (by kernel_rfl) (by kernel_rfl) (by kernel_rfl) (by kernel_rfl) (by kernel_rfl) (AM.TT.laidWorld_met os _)) ?_
  intro W base args ds gs before hval0 hW hcnd hsz0 hL _
  have hg : AM.GK (AM.allK W) := AM.TT.gk_of_laid hL
  have hval : ∀ (j : Nat) t v, Tryz.f5.params[j]? = some t → args[j]? = some v → Value.okWide Tryz.prog W .any base t v := hval0
  have hW' := hW
  obtain ⟨p, q, hA0, hV, rfl, hfz, hnd⟩ := hW
  have hA : DataW.TrodAll enc Tryz.prog W 0 (fun _ => true) true Tryz.f5.params.toList args.toList ds p := hA0
  rw [Tryz.params5] at hA hval
  obtain ⟨v0, vs0, d0, ds0, p0, q0, hargs, rfl, rfl, h0, r0⟩ := trodAll_cons hA
  obtain ⟨v1, vs1, d1, ds1, p1, q1, rfl, rfl, rfl, h1, r1⟩ := trodAll_cons r0
  obtain ⟨v2, vs2, d2, ds2, p2, q2, rfl, rfl, rfl, h2, r2⟩ := trodAll_cons r1
  obtain ⟨v3, vs3, d3, ds3, p3, q3, rfl, rfl, rfl, h3, r3⟩ := trodAll_cons r2
  obtain ⟨rfl, rfl, rfl⟩ := trodAll_nil r3
  obtain rfl : args = #[v0, v1, v2, v3] := by cases args; simp_all
  obtain ⟨rfl, rfl⟩ := trodVars_none hV
  have hsz : (DataW.weightsEach Tryz.prog [3, 67, 68, 9] [d0, d1, d2, d3]).all (· ≤ reachBytes) = true := hsz0
  rw [List.all_eq_true] at hsz
  have hv0 := hval 0 3 v0 rfl rfl
  have k0 := h0
  have lt0 : ∀ x ∈ p0, x.block < W.heap.size := by obtain ⟨m, hm⟩ := k0; exact DataW.trod_lt m _ _ _ hm
  have w0 : ∀ m ∈ d0.weights Tryz.prog 3, m ≤ reachBytes := fun m hm => of_decide_eq_true (hsz m (DataW.weights_mem_each (j := 0) (t := 3) (d := d0) rfl rfl m hm))
  obtain ⟨c0, hc0⟩ := AM.TT.arg_int hv0 h0 w0
  have hv1 := hval 1 67 v1 rfl rfl
  have k1 := h1
  have lt1 : ∀ x ∈ p1, x.block < W.heap.size := by obtain ⟨m, hm⟩ := k1; exact DataW.trod_lt m _ _ _ hm
  have w1 : ∀ m ∈ d1.weights Tryz.prog 67, m ≤ reachBytes := fun m hm => of_decide_eq_true (hsz m (DataW.weights_mem_each (j := 1) (t := 67) (d := d1) rfl rfl m hm))
  obtain ⟨c1, hc1⟩ := AM.TT.arg_ref hv1 h1 w1
  have hv2 := hval 2 68 v2 rfl rfl
  have k2 := h2
  have lt2 : ∀ x ∈ p2, x.block < W.heap.size := by obtain ⟨m, hm⟩ := k2; exact DataW.trod_lt m _ _ _ hm
  have w2 : ∀ m ∈ d2.weights Tryz.prog 68, m ≤ reachBytes := fun m hm => of_decide_eq_true (hsz m (DataW.weights_mem_each (j := 2) (t := 68) (d := d2) rfl rfl m hm))
  obtain ⟨c2, hc2, z2⟩ := AM.TT.arg_chain hv2 h2 w2
  have hv3 := hval 3 9 v3 rfl rfl
  have k3 := h3
  have lt3 : ∀ x ∈ p3, x.block < W.heap.size := by obtain ⟨m, hm⟩ := k3; exact DataW.trod_lt m _ _ _ hm
  have w3 : ∀ m ∈ d3.weights Tryz.prog 9, m ≤ reachBytes := fun m hm => of_decide_eq_true (hsz m (DataW.weights_mem_each (j := 3) (t := 9) (d := d3) rfl rfl m hm))
  obtain ⟨c3, hc3⟩ := AM.TT.arg_str hv3 h3 w3
  clear hA0 hval0 hsz0
  refine (AM.TT.law_call (AM.TT.f5_calls c0 c1 c2 c3) hg (AM.TT.reps4 hc0 hc1 hc2 hc3)).mono fun e W' ⟨he, bel⟩ => ?_
  subst he
  exact ⟨_, rfl, _, _, _, [], _, [], hW', trodAll_mk1 (shut_bool Tryz.underlying4 _), (trodAll_cons_mk (Below.trod laidOut (by kernel_rfl) (of_decide_eq_true (by kernel_rfl)) k0 bel lt0) (trodAll_cons_mk (Below.trod laidOut (by kernel_rfl) (of_decide_eq_true (by kernel_rfl)) k1 bel lt1) (trodAll_cons_mk (Below.trod laidOut (by kernel_rfl) (of_decide_eq_true (by kernel_rfl)) k2 bel lt2) (trodAll_cons_mk (Below.trod laidOut (by kernel_rfl) (of_decide_eq_true (by kernel_rfl)) k3 bel lt3) trodAll_mk0)))), rfl, bel.frame _, fun h => by cases h⟩
theorem over : Rows.pageMeansRow.holds Tryz.pinned (OpenSpec.ofChange Rows.pageMeansSpec) :=
  OpenClaim.holds_of_wide 5 Tryz.f5 rfl rfl rfl rfl rfl rfl rfl ⟨rfl, rfl, rfl, rfl, rfl⟩ rfl rfl rfl rfl rfl (by kernel_rfl) Tryz.func5 (by kernel_rfl)
    (of_decide_eq_true (by kernel_rfl)) (by unfold Func.isWrapper; first | (rw [if_pos (by decide +kernel)]; kernel_rfl) | (rw [if_neg (by decide +kernel)]; exact ⟨rfl, rfl⟩))
    (fun os started H enc _ => lifted os started H enc)
theorem proved : Rows.PageMeansSaid := over
theorem card : Rows.PageMeansCardSaid :=
  Claim7.holds_tied_plain_at .later [] [.handle] true (true, "c581dd70c384e0557497e72bdeb2735ce5f0074cff35844a10c14d34e5e6aa7d") true
    proved (fun _ h => by cases h) (by kernel_rfl) (fun _ h => by cases h) pageMeans_row_tie rfl ⟨rfl, rfl⟩ (by kernel_rfl) rfl
    (fun f fn hf hfn => by
      obtain rfl : f = 5 := Option.some.inj ((show Tryz.prog.funcNamed "rowlock/rowlocklaw10.PageMeans" = some 5 by kernel_rfl).symm.trans hf) |>.symm
      obtain rfl : fn = Tryz.f5 := (Option.some.inj (Tryz.func5.symm.trans hfn)).symm
      exact ⟨by kernel_rfl, fun j t ht => by
        rw [Tryz.params5] at ht
        have h3 : t = 3 ∨ t = 67 ∨ t = 68 ∨ t = 9 := by
          have : t ∈ [3, 67, 68, 9] := by
            have := Array.mem_of_getElem? ht
            simpa using this
          simpa using this
        rcases h3 with rfl | rfl | rfl | rfl
        · exact (show Tryz.prog.wantsStandIn 3 = false by kernel_rfl)
        · exact (show Tryz.prog.wantsStandIn 67 = false by kernel_rfl)
        · exact (show Tryz.prog.wantsStandIn 68 = false by kernel_rfl)
        · exact (show Tryz.prog.wantsStandIn 9 = false by kernel_rfl)⟩)
    (by kernel_rfl)
end Go.Proofs.YtbeafnkcimfeeaaGreatDoor.pageMeans
namespace Go.Proofs.YtbeafnkcimfeeaaGreatDoor
/-- The card, under a short name, for the claim. -/
theorem pageMeans_holds : Rows.PageMeansCardSaid := pageMeans.card
end Go.Proofs.YtbeafnkcimfeeaaGreatDoor
