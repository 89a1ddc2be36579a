/- Contracts of the functions and their models, by the abstract machine. -/
import Derived.Test.YtehhgamkijkjgaaPfLw
/- The law of a view and two numbers, as a call. -/
namespace Go.Proofs.Ytehhgamkijkjgaa.AM.TT
open Go Go.Proofs.Ytehhgamkijkjgaa.AM Go.Proofs Go.RowKit Go.WideShapes
set_option linter.unusedVariables false
def rdTypesV : List TypeId := [24, 3, 9, 4, 22, 101]
theorem rdClosedV : closedB Try.prog rdTypesV = true := by kernel_rfl
theorem rd_view {ds : List DV} (h : Shp Try.prog 24 ds) : ∃ r : LView, ds = ev r := by
  obtain ⟨dss, rfl, h1⟩ := h.agg_ts (ts := [9, 9, 4, 3, 22, 4]) (by kernel_rfl)
  obtain ⟨d1, r1, rfl, q1, h1⟩ := h1.cons_inv
  obtain ⟨d2, r2, rfl, q2, h1⟩ := h1.cons_inv
  obtain ⟨d3, r3, rfl, q3, h1⟩ := h1.cons_inv
  obtain ⟨d4, r4, rfl, q4, h1⟩ := h1.cons_inv
  obtain ⟨d5, r5, rfl, q5, h1⟩ := h1.cons_inv
  obtain ⟨d6, r6, rfl, q6, h1⟩ := h1.cons_inv
  obtain rfl := h1.nil_inv
  obtain ⟨x1, rfl⟩ := rd_str q1
  obtain ⟨x2, rfl⟩ := rd_str q2
  obtain ⟨x3, rfl⟩ := rd_bool q3
  obtain ⟨x4, rfl⟩ := rd_int q4
  obtain ⟨x5, rfl⟩ := rd_rows q5
  obtain ⟨x6, rfl⟩ := rd_bool q6
  exact ⟨⟨x1, x2, x3, x4, x5, x6⟩, rfl⟩
set_option maxRecDepth 100000 in
/-- What an argument of the view's type is. -/
theorem arg_view {H : Type} {enc : TypeId × Value → H} {W : World} {v : Value} {d : DataW H} {ps : List MemPlace} {r : Reach} {base : Nat}
    (hv : Value.okWide Try.prog W r base 24 v) (h : DataW.Trod enc Try.prog W 0 (fun _ => true) true 24 v d ps) : ∃ c : LView, RepD (allK W) (.agg (ev c)) v := by
  obtain ⟨cs, rfl, _⟩ := okWide_struct (P := Try.prog) (w := W) (r := r) (base := base) (t := 24) (v := v) Try.underlying24 hv
  obtain ⟨n, hn⟩ := h
  obtain ⟨ds, h1, h2⟩ := read_all (H := H) (enc := enc) (P := Try.prog) (w := W) (spare := fun _ => true) (held := true) (l := rdTypesV) rdClosedV (fun _ => rfl) n 24 cs.toList (d, ps) (by unfold rdTypesV; simp) hn
  obtain ⟨c, rfl⟩ := rd_view h1
  exact ⟨c, rep_agg h2⟩
/-- A law of a view and two numbers, as a call. -/
theorem law_three {f : FuncId} {dv : DV} {W : World} {v : Value} {a b : Int} (hc : CallsD Try.prog f [dv, I a, I b] (.bool true)) (h : RepD (allK W) dv v) :
    Calls Try.prog f #[v, .int .i64 a, .int .i64 b] W fun e W' => e = .returned (.bool true) ∧ Below W.heap.size W W' := by
  refine (hc.2 (allK W) W #[v, .int .i64 a, .int .i64 b] (fun _ _ _ h => h) ⟨rfl, fun j d hj => ?_⟩).mono ?_
  · match j with
    | 0 =>
      simp only [List.getElem?_cons_zero, Option.some.injEq] at hj
      subst hj
      exact h
    | 1 =>
      simp only [List.getElem?_cons_succ, List.getElem?_cons_zero, Option.some.injEq] at hj
      subst hj
      exact .int _ _
    | 2 =>
      simp only [List.getElem?_cons_succ, List.getElem?_cons_zero, Option.some.injEq] at hj
      subst hj
      exact .int _ _
    | j + 3 => simp at hj
  · rintro e W' ⟨v, K', rfl, h1, _, _, _, h2⟩
    cases h1
    exact ⟨rfl, h2⟩
end Go.Proofs.Ytehhgamkijkjgaa.AM.TT
