/- Contracts of the functions and their models, by the abstract machine. -/
import Derived.Test.YtbeafnkcimfeeaaDoorPfModz
import Derived.Test.YtbeafnkcimfeeaaDoorPfMod3
/- Models: what a key has in a chain. -/
namespace Go.Proofs.YtbeafnkcimfeeaaDoor.AM.TT
set_option linter.unusedVariables false
set_option linter.unusedSimpArgs false

theorem upV_gone {v : LView} {r : Rec} (h : (upV v r).2 = true) : v.gone = false ∧ (r.kind = 2 ∨ r.kind = 3 ∨ r.kind = 4 ∨ r.kind = 5 ∨ r.kind = 6) := by
  unfold upV at h
  cases hg : v.gone with
  | true =>
    rw [hg] at h
    repeat' (split at h)
    all_goals simp at h
  | false =>
    refine ⟨rfl, ?_⟩
    by_cases h2 : r.kind = 2
    · exact .inl h2
    by_cases h3 : r.kind = 3
    · exact .inr (.inl h3)
    by_cases h4 : r.kind = 4
    · exact .inr (.inr (.inl h4))
    by_cases h5 : r.kind = 5
    · exact .inr (.inr (.inr (.inl h5)))
    by_cases h6 : r.kind = 6
    · exact .inr (.inr (.inr (.inr h6)))
    rw [if_neg h2, if_neg h3, if_neg h4, if_neg h6, if_neg h5] at h
    cases h

theorem goUp_SV {l : List Rec} : ∀ {n : Nat} {v w : LView}, SV v → goUp l n v = some w → SV w ∧ w.rows.length ≤ v.rows.length + szL l n
  | 0, v, w, hs, h => by simp [goUp] at h; subst h; exact ⟨hs, by omega⟩
  | n + 1, v, w, hs, h => by
    unfold goUp at h
    split at h
    · rename_i q
      obtain ⟨g, hk⟩ := upV_gone q
      obtain ⟨e1, e2⟩ := refV_upV (r := l.getD n default) hs g hk
      rw [e1] at q
      obtain ⟨e3, e4, _⟩ := e2 q
      rw [e3] at h
      obtain ⟨a, b⟩ := goUp_SV e4 h
      refine ⟨a, ?_⟩
      have hl := upV_len v (l.getD n default)
      rw [e3] at hl
      by_cases hn : n < l.length
      · have hx : l[n]? = some (l.getD n default) := by simp [List.getD, hn]
        rw [szL_succ hx]; omega
      · exfalso
        have : l.getD n default = default := by simp [List.getD, List.getElem?_eq_none (show l.length ≤ n by omega)]
        rw [this] at hk
        have : (default : Rec).kind = 0 := rfl
        omega
    · cases h

theorem foldL_SV {l : List Rec} {w : LView} (h : foldL l = .ok w) : SV w ∧ w.rows.length ≤ szL l l.length := by
  unfold foldL at h
  split at h
  · split at h
    · rename_i b hb
      split at h
      · split at h
        · rename_i hs
          split at h
          · rename_i w' hg
            cases h
            obtain ⟨a, c⟩ := goUp_SV (SV_sound hs) hg
            refine ⟨a, ?_⟩
            rw [List.getLast?_eq_getElem?] at hb
            have hlt := (List.getElem?_eq_some_iff.1 hb).1
            have hz := szL_succ hb
            rw [show l.length - 1 + 1 = l.length by omega] at hz
            simp only [baseV] at c
            omega
          · cases h
        · cases h
      · cases h
    · cases h
  · cases h

theorem foldL_err {l : List Rec} {c : Int} (h : foldL l = .error c) : c = 9 ∨ c = 10 := by
  unfold foldL at h
  repeat' (split at h)
  all_goals first | (cases h; simp; done) | (cases h; done)

theorem place_hit {l : List Row} {k : Str} {i : Nat} {x : Row} (hl : UpR l) (hi : l[i]? = some x) (hk : x.key = k) : place l k = i := by
  have hle : ∀ n, n ≤ i → n ≤ place l k := by
    intro n
    induction n with
    | zero => intro _; exact Nat.zero_le _
    | succ n ih =>
      intro hn
      have hni : n < l.length := by have := (List.getElem?_eq_some_iff.1 hi).1; omega
      have hx : l[n]? = some l[n] := by simp [hni]
      have hlt : lt l[n].key k = true := by
        have := List.pairwise_iff_getElem.1 hl n i hni (List.getElem?_eq_some_iff.1 hi).1 (by omega)
        rw [(List.getElem?_eq_some_iff.1 hi).2, hk] at this
        exact this
      exact (place_at (ih (by omega)) hx).1 hlt
  have h1 := hle i (Nat.le_refl _)
  have h2 := place_at h1 hi
  rw [hk, lt_irrefl] at h2
  have : ¬ i + 1 ≤ place l k := fun q => by have := h2.2 q; cases this
  omega

theorem there_hit {l : List Row} {k : Str} {i : Nat} {x : Row} (hl : UpR l) (hi : l[i]? = some x) (hk : x.key = k) : there l k = true := by
  have := place_hit hl hi hk
  unfold there
  rw [this, hi]
  simp [hk]

theorem there_val {l : List Row} {k : Str} (h : there l k = true) : ∃ x, l[place l k]? = some x ∧ x.key = k := by
  unfold there at h
  cases hx : l[place l k]? with
  | none => rw [hx] at h; cases h
  | some x => rw [hx] at h; exact ⟨x, rfl, by simpa using h⟩

theorem there_no {l : List Row} {k : Str} (h : ∀ (j : Nat) (x : Row), l[j]? = some x → x.key ≠ k) : there l k = false := by
  cases ht : there l k with
  | false => rfl
  | true => obtain ⟨x, h1, h2⟩ := there_val ht; exact absurd h2 (h _ x h1)

/-- What a key has in a chain: a value, is it there, and why it can't be told. -/
def searchL (l : List Rec) (k : Str) : Str × Bool × Int :=
  match foldL l with
  | .error c => ([], false, c)
  | .ok v => if v.gone then ([], false, 13) else if hasV v k then (if there v.rows k then ((v.rows.getD (place v.rows k) default).val, true, 0) else ([], false, 0)) else ([], false, 2)

theorem fewM_len {l : List Rec} (h : fewM l = true) : l.length ≤ 40 := by
  simp only [fewM, Bool.and_eq_true, decide_eq_true_eq] at h
  exact h.1.1

end Go.Proofs.YtbeafnkcimfeeaaDoor.AM.TT
