/- Models (6): a plan from above. -/
import Derived.Test.YtehhgamkijkjgaaPfMod5
namespace Go.Proofs.Ytehhgamkijkjgaa.AM.TT
open Go Go.Proofs.Ytehhgamkijkjgaa.AM
set_option linter.unusedSimpArgs false
set_option linter.unusedVariables false
def lastE (l : List Entry) (k : Str) (inf : Bool) : Nat → Option Entry
  | 0 => none
  | n + 1 => if inf || decide (cmp (l.getD n default).key k < 0) then some (l.getD n default) else lastE l k inf n
def downP (x : Option Entry) : Plan := match x with | some e => ⟨1, e.page, noEntry, noHold⟩ | none => plan 3
def backP (p : Page) (k : Str) (inf up : Bool) : Plan :=
  if p.leaf && p.rows.gone then plan 3
  else if up && !p.leaf && p.inner.held then ⟨5, 0, noEntry, p.inner.hold⟩
  else if !unbP p && (inf || decide (cmp (highP p) k < 0)) then ⟨2, rightP p, noEntry, noHold⟩
  else if p.leaf then plan 10
  else downP (lastE p.inner.ents k inf p.inner.ents.length)
theorem lastE_step {l : List Entry} {k : Str} {inf : Bool} {n : Nat} {x : Entry} (h0 : decide (0 ≤ (n : Int) - 1) = true) (hx : l[((n : Int) - 1).toNat]? = some x) :
    ∃ m, n = m + 1 ∧ lastE l k inf n = if inf || decide (cmp x.key k < 0) then some x else lastE l k inf m := by
  simp only [decide_eq_true_eq] at h0
  obtain ⟨m, rfl⟩ : ∃ m, n = m + 1 := ⟨n - 1, by omega⟩
  have e : (((m + 1 : Nat) : Int) - 1).toNat = m := by omega
  rw [e] at hx
  refine ⟨m, rfl, ?_⟩
  have : l.getD m default = x := by simp [List.getD, hx]
  rw [lastE, this]
theorem lastE_stop {l : List Entry} {k : Str} {inf : Bool} {n : Nat} (h0 : decide (0 ≤ (n : Int) - 1) = false) : lastE l k inf n = none := by
  simp only [decide_eq_false_iff_not] at h0
  obtain rfl : n = 0 := by omega
  rfl
end Go.Proofs.Ytehhgamkijkjgaa.AM.TT
