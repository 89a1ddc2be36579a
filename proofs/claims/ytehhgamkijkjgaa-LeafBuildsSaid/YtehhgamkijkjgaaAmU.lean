/- The abstract machine (19): what is data at all is bounded. -/
import Derived.Test.YtehhgamkijkjgaaAmS
namespace Go.Proofs.Ytehhgamkijkjgaa.AM
open Go.RowKit
set_option linter.unusedVariables false

/-- Data that some value is. -/
def Bd (d : DV) : Prop := ∃ K v, RepD K d v

theorem Bd.str {s : List UInt8} (h : Bd (.str s)) : s.length ≤ 9223372036854775807 := by
  obtain ⟨K, v, h⟩ := h
  cases h with
  | str _ h => exact h

theorem Bd.lst {sz : Nat} {es : List (List DV)} (h : Bd (.lst sz es)) : es.length ≤ 9223372036854775807 ∧ ∀ e ∈ es, ∀ d ∈ e, Bd d := by
  obtain ⟨K, v, h⟩ := h
  cases h with
  | nils => exact ⟨by simp, by simp⟩
  | emp => exact ⟨by simp, by simp⟩
  | lst _ _ b o cap f h1 h2 hs hk ho hr =>
    refine ⟨Nat.le_trans h1 h2, fun e he d hd => ?_⟩
    obtain ⟨i, hi⟩ := List.getElem?_of_mem he
    obtain ⟨j, hj⟩ := List.getElem?_of_mem hd
    exact ⟨K, _, hr i e hi j d hj⟩

theorem Bd.agg {cs : List DV} (h : Bd (.agg cs)) : ∀ d ∈ cs, Bd d := by
  obtain ⟨K, v, h⟩ := h
  cases h with
  | agg _ vs hl ho hr =>
    intro d hd
    obtain ⟨j, hj⟩ := List.getElem?_of_mem hd
    exact ⟨K, _, hr j d hj⟩

theorem CallsD_bd {P : Program} {g : FuncId} {args : List DV} {r : DV} (he : EnterOk P g) (h : (∀ d ∈ args, Bd d) → CallsD P g args r) : CallsD P g args r := by
  refine ⟨he, fun K w xs hK hx => ?_⟩
  refine (h fun d hd => ?_).2 K w xs hK hx
  obtain ⟨j, hj⟩ := List.getElem?_of_mem hd
  exact ⟨K, _, hx.2 j d hj⟩
end Go.Proofs.Ytehhgamkijkjgaa.AM
