/- Contracts of the functions and their models, by the abstract machine. -/
import Derived.Test.YtbeafnkcimfeeaaDoorPfModz
/- Models (13): what splits and grows. -/
namespace Go.Proofs.YtbeafnkcimfeeaaDoor.AM.TT
set_option linter.unusedVariables false
set_option linter.unusedSimpArgs false
open Go Go.Proofs.YtbeafnkcimfeeaaDoor.AM
set_option linter.unusedSimpArgs false
set_option linter.unusedVariables false
theorem lt_self_take : ∀ (a : Str) (n : Nat), lt a (a.take n) = false
  | [], n => by simp [lt]
  | x :: r, 0 => by simp [lt]
  | x :: r, n + 1 => by simp [lt, lt_self_take r n]
/-- What lies between two keys, by trying. -/
theorem lt_take : ∀ {a b : Str}, lt a b = true → ∀ n, lt a (b.take n) = decide (common a b + 1 ≤ n)
  | a, [], h, n => by cases a <;> simp [lt] at h
  | [], y :: s, h, 0 => by simp [lt, common]
  | [], y :: s, h, n + 1 => by simp [lt, common]
  | x :: r, y :: s, h, 0 => by simp [lt]
  | x :: r, y :: s, h, n + 1 => by
    by_cases e : x = y
    · subst e
      simp only [lt, if_true] at h
      simp only [List.take_succ_cons, lt, if_true, common]
      rw [lt_take h n]
      simp only [Nat.add_le_add_iff_right]
    · simp only [lt, e, if_false] at h
      simp only [List.take_succ_cons, lt, e, if_false, common, h]
      simp
theorem common_lt2 {a b : Str} (h : lt a b = true) : common a b + 1 ≤ b.length := by
  have := lt_take h b.length
  rw [List.take_length, h] at this
  simpa using this.symm
end Go.Proofs.YtbeafnkcimfeeaaDoor.AM.TT
