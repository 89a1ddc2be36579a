/- The law of a case, as a call. -/
import Derived.Test.YtehhgamkijkjgaaPfRd
import Derived.WideShapes
namespace Go.Proofs.Ytehhgamkijkjgaa.AM.TT
open Go Go.Proofs.Ytehhgamkijkjgaa.AM Go.Proofs Go.RowKit Go.WideShapes
set_option linter.unusedVariables false

theorem rep_agg {K : Known} {ds : List DV} {cs : Array Value} (h : ReadsAs K ds cs.toList) : RepD K (.agg ds) (.agg cs) := by
  refine .agg ds cs (by simpa using h.1.symm) (fun j d hj => ?_) (fun j d hj => ?_)
  · obtain ⟨v, h1, h2, h3⟩ := h.2 j d hj
    have : cs.getD j undef = v := by simp [Array.getD_eq_getD_getElem?, ← Array.getElem?_toList, h1]
    rw [this]; exact h2
  · obtain ⟨v, h1, h2, h3⟩ := h.2 j d hj
    have : cs.getD j undef = v := by simp [Array.getD_eq_getD_getElem?, ← Array.getElem?_toList, h1]
    rw [this]; exact h3

set_option maxRecDepth 100000 in
/-- What an argument of the case's type is. -/
theorem arg_case {H : Type} {enc : TypeId × Value → H} {W : World} {v : Value} {d : DataW H} {ps : List MemPlace} {r : Reach} {base : Nat}
    (hv : Value.okWide Try.prog W r base 62 v) (h : DataW.Trod enc Try.prog W 0 (fun _ => true) true 62 v d ps) : ∃ c : Case, RepD (allK W) (.agg (ecase c)) v := by
  obtain ⟨cs, rfl, _⟩ := okWide_struct (P := Try.prog) (w := W) (r := r) (base := base) (t := 62) (v := v) Try.underlying62 hv
  obtain ⟨n, hn⟩ := h
  obtain ⟨ds, h1, h2⟩ := read_all (H := H) (enc := enc) (P := Try.prog) (w := W) (spare := fun _ => true) (held := true) (l := rdTypes) rdClosed (fun _ => rfl) n 62 cs.toList (d, ps) (by unfold rdTypes; simp) hn
  obtain ⟨c, rfl⟩ := rd_case h1
  exact ⟨c, rep_agg h2⟩

/-- A law of one argument, as a call. -/
theorem law_one {f : FuncId} {dv : DV} {W : World} {v : Value} (hc : CallsD Try.prog f [dv] (.bool true)) (h : RepD (allK W) dv v) :
    Calls Try.prog f #[v] W fun e W' => e = .returned (.bool true) ∧ Below W.heap.size W W' := by
  refine (hc.2 (allK W) W #[v] (fun _ _ _ h => h) ⟨rfl, fun j d hj => ?_⟩).mono ?_
  · cases j with
    | zero =>
      simp only [List.getElem?_cons_zero, Option.some.injEq] at hj
      subst hj
      exact h
    | succ j => simp at hj
  · rintro e W' ⟨v, K', rfl, h1, _, _, _, h2⟩
    cases h1
    exact ⟨rfl, h2⟩
/-- A law of a case and a bool, as a call. -/
theorem law_two {f : FuncId} {dv : DV} {W : World} {v : Value} {b : Bool} (hc : CallsD Try.prog f [dv, .bool b] (.bool true)) (h : RepD (allK W) dv v) :
    Calls Try.prog f #[v, .bool b] W fun e W' => e = .returned (.bool true) ∧ Below W.heap.size W W' := by
  refine (hc.2 (allK W) W #[v, .bool b] (fun _ _ _ h => h) ⟨rfl, fun j d hj => ?_⟩).mono ?_
  · cases j with
    | zero =>
      simp only [List.getElem?_cons_zero, Option.some.injEq] at hj
      subst hj
      exact h
    | succ j =>
      cases j with
      | zero =>
        simp only [List.getElem?_cons_succ, List.getElem?_cons_zero, Option.some.injEq] at hj
        subst hj
        exact .bool _
      | succ j => simp at hj
  · rintro e W' ⟨v, K', rfl, h1, _, _, _, h2⟩
    cases h1
    exact ⟨rfl, h2⟩
end Go.Proofs.Ytehhgamkijkjgaa.AM.TT
