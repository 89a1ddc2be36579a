/- Contracts of the functions and their models, by the abstract machine. -/
import Derived.Test.YtbeafnkcimfeeaaGreatDoorPfModz
import Derived.Test.YtbeafnkcimfeeaaGreatDoorPfMod3
/- Models: what a key has in a chain. -/
namespace Go.Proofs.YtbeafnkcimfeeaaGreatDoor.AM.TT
set_option linter.unusedVariables false
set_option linter.unusedSimpArgs false
theorem upV_gone {v : LView} {r : Rec} (h : (upV v r).2 = true) : v.gone = false ∧ (r.kind = 2 ∨ r.kind = 3 ∨ r.kind = 4 ∨ r.kind = 5 ∨ r.kind = 6) := by
  unfold upV at h
  cases hg : v.gone with
  | true =>
    rw [hg] at h
    repeat' (split at h)
    all_goals simp at h
  | false =>
    refine ⟨rfl, ?_⟩
    by_cases h2 : r.kind = 2
    · exact .inl h2
    by_cases h3 : r.kind = 3
    · exact .inr (.inl h3)
    by_cases h4 : r.kind = 4
    · exact .inr (.inr (.inl h4))
    by_cases h5 : r.kind = 5
    · exact .inr (.inr (.inr (.inl h5)))
    by_cases h6 : r.kind = 6
    · exact .inr (.inr (.inr (.inr h6)))
    rw [if_neg h2, if_neg h3, if_neg h4, if_neg h6, if_neg h5] at h
    cases h
theorem goUp_SV {l : List Rec} : ∀ {n : Nat} {v w : LView}, SV v → goUp l n v = some w → SV w ∧ w.rows.length ≤ v.rows.length + szL l n
  | 0, v, w, hs, h => by simp [goUp] at h; subst h; exact ⟨hs, by omega⟩
  | n + 1, v, w, hs, h => by
    unfold goUp at h
    split at h
    · rename_i q
      obtain ⟨g, hk⟩ := upV_gone q
      obtain ⟨e1, e2⟩ := refV_upV (r := l.getD n default) hs g hk
      rw [e1] at q
      obtain ⟨e3, e4, _⟩ := e2 q
      rw [e3] at h
      obtain ⟨a, b⟩ := goUp_SV e4 h
      refine ⟨a, ?_⟩
      have hl := upV_len v (l.getD n default)
      rw [e3] at hl
      by_cases hn : n < l.length
      · have hx : l[n]? = some (l.getD n default) := by simp [List.getD, hn]
        rw [szL_succ hx]; omega
      · exfalso
        have : l.getD n default = default := by simp [List.getD, List.getElem?_eq_none (show l.length ≤ n by omega)]
        rw [this] at hk
        have : (default : Rec).kind = 0 := rfl
        omega
    · cases h
theorem foldL_SV {l : List Rec} {w : LView} (h : foldL l = .ok w) : SV w ∧ w.rows.length ≤ szL l l.length := by
  unfold foldL at h
  split at h
  · split at h
    · rename_i b hb
      split at h
      · split at h
        · rename_i hs
          split at h
          · rename_i w' hg
            cases h
            obtain ⟨a, c⟩ := goUp_SV (SV_sound hs) hg
            refine ⟨a, ?_⟩
            rw [List.getLast?_eq_getElem?] at hb
            have hlt := (List.getElem?_eq_some_iff.1 hb).1
            have hz := szL_succ hb
            rw [show l.length - 1 + 1 = l.length by omega] at hz
            simp only [baseV] at c
            omega
          · cases h
        · cases h
      · cases h
    · cases h
  · cases h
theorem foldL_err {l : List Rec} {c : Int} (h : foldL l = .error c) : c = 9 ∨ c = 10 := by
  unfold foldL at h
  repeat' (split at h)
  all_goals first | (cases h; simp; done) | (cases h; done)
end Go.Proofs.YtbeafnkcimfeeaaGreatDoor.AM.TT
