/- Models (7): the last child of an inner page. -/
import Derived.Test.YtehhgamkijkjgaaPfMod6
namespace Go.Proofs.Ytehhgamkijkjgaa.AM.TT
open Go Go.Proofs.Ytehhgamkijkjgaa.AM
set_option linter.unusedSimpArgs false
set_option linter.unusedVariables false
def headOk (v : IView) : Prop := ∃ x r, v.ents = x :: r ∧ x.key = v.low
def heldOk2 (v : IView) : Prop := v.held = true → placeE v.ents v.hold.key ≠ 0
theorem headOk_base {b : Rec} (h : soundI (baseI b) = true) : headOk (baseI b) := by
  simp only [soundI, Bool.and_eq_true] at h
  have h1 := h.1.1
  unfold headOk
  cases he : (baseI b).ents with
  | nil => rw [he] at h1; simp at h1
  | cons x r => rw [he] at h1; exact ⟨x, r, rfl, by simpa using h1⟩
theorem headOk_put {v : IView} {e : Entry} (h : headOk v) (hu : Up v.ents) (ht : thereE v.ents e.key = false) (hh : hasI v e.key = true) :
    ∃ x r, v.ents.take (placeE v.ents e.key) ++ e :: v.ents.drop (placeE v.ents e.key) = x :: r ∧ x.key = v.low := by
  obtain ⟨x, r, hx, hk⟩ := h
  have hne : placeE v.ents e.key ≠ 0 := by
    intro q
    have h1 := behind hu ht (y := x) (by rw [q, hx]; simp)
    rw [hk] at h1
    simp only [hasI, inS, Bool.and_eq_true, Bool.not_eq_true'] at hh
    rw [hh.1] at h1; cases h1
  obtain ⟨m, hm⟩ : ∃ m, placeE v.ents e.key = m + 1 := ⟨placeE v.ents e.key - 1, by omega⟩
  rw [hm, hx]
  exact ⟨x, _, rfl, hk⟩
theorem headOk_take {v : IView} {n : Nat} {l : List Entry} (h : headOk v) (hn : n ≠ 0) : ∃ x r, v.ents.take n ++ l = x :: r ∧ x.key = v.low := by
  obtain ⟨x, r, hx, hk⟩ := h
  obtain ⟨m, rfl⟩ : ∃ m, n = m + 1 := ⟨n - 1, by omega⟩
  rw [hx]
  exact ⟨x, _, rfl, hk⟩
theorem upI_head {v : IView} {r : Rec} (h : headOk v) (hu : Up v.ents) (hh : heldOk2 v) : headOk (upI v r).1 ∧ heldOk2 (upI v r).1 := by
  unfold upI
  split
  · rename_i hc
    split
    · exact ⟨h, hh⟩
    · rename_i hn
      simp only [Bool.or_eq_true, not_or, Bool.not_eq_true, Bool.not_eq_false'] at hn
      exact ⟨headOk_put (e := ⟨r.key, r.page⟩) h hu hn.1 (by simpa using hn.2), fun q => by simp [hc.2] at q⟩
  · split
    · rename_i hc
      split
      · exact ⟨h, hh⟩
      · rename_i hn
        simp only [Bool.or_eq_true, not_or, decide_eq_true_eq] at hn
        refine ⟨?_, fun q => by simp [hc.2] at q⟩
        have := headOk_take (l := []) h hn.2
        simpa [headOk] using this
    · split
      · split
        · exact ⟨h, hh⟩
        · rename_i hn
          simp only [Bool.or_eq_true, not_or, decide_eq_true_eq] at hn
          exact ⟨h, fun _ => hn.1.1.2⟩
      · split
        · rename_i hc
          refine ⟨headOk_take h (hh hc.2), fun q => by simp at q⟩
        · exact ⟨h, hh⟩
theorem goUpI_head {l : List Rec} {w : IView} : ∀ (n : Nat) (v : IView), headOk v → Up v.ents → heldOk2 v → goUpI l n v = some w → headOk w
  | 0, v, h, _, _, e => by simp [goUpI] at e; subst e; exact h
  | n + 1, v, h, hu, hh, e => by
    rw [goUpI] at e
    split at e
    · have := upI_head (r := l.getD n default) h hu hh
      exact goUpI_head n _ this.1 (upI_up hu) this.2 e
    · cases e
theorem foldI_head {l : List Rec} {w : IView} (h : foldI l = .ok w) : headOk w := by
  unfold foldI at h
  split at h
  · split at h
    · split at h
      · split at h
        · rename_i hs
          split at h
          · rename_i w' hw
            simp at h; subst h
            have hs2 := hs
            simp only [soundI, Bool.and_eq_true] at hs2
            exact goUpI_head _ _ (headOk_base hs) (Up_rising hs2.2) (fun q => by simp [baseI] at q) hw
          · cases h
        · cases h
      · cases h
    · cases h
  · cases h
theorem madeP_inner {c : Case} {p : Page} (h : madeP c = .ok p) (hl : p.leaf = false) : headOk p.inner ∧ Up p.inner.ents := by
  have h2 : (∃ w, foldL c.chain = .ok w ∧ p = ⟨c.n, ⟨1, 1⟩, c.chain, [], true, w, noIView⟩) ∨ ∃ w, foldI c.chain = .ok w ∧ p = ⟨c.n, ⟨1, 1⟩, c.chain, [], false, noView, w⟩ := by
    unfold madeP ofP at h
    cases hb : c.chain[c.chain.length - 1]? with
    | none =>
      simp only [hb] at h
      cases hw : foldI c.chain with
      | ok w => rw [hw] at h; simp at h; exact .inr ⟨w, rfl, h.symm⟩
      | error e => rw [hw] at h; simp at h
    | some b =>
      simp only [hb] at h
      by_cases hk : b.kind = 1
      · simp only [hk, decide_true, if_true] at h
        cases hw : foldL c.chain with
        | ok w => rw [hw] at h; simp at h; exact .inl ⟨w, rfl, h.symm⟩
        | error e => rw [hw] at h; simp at h
      · simp only [hk, decide_false] at h
        cases hw : foldI c.chain with
        | ok w => rw [hw] at h; simp at h; exact .inr ⟨w, rfl, h.symm⟩
        | error e => rw [hw] at h; simp at h
  rcases h2 with ⟨w, hw, rfl⟩ | ⟨w, hw, rfl⟩
  · cases hl
  · exact ⟨foldI_head hw, foldI_up hw⟩
/-- Behind the last entry's key lies the last child. -/
theorem childI_last {v : IView} {k : Str} {x : Entry} (hh : headOk v) (hu : Up v.ents) (hb : v.unb = true) (hx : v.ents[v.ents.length - 1]? = some x) (hk : lt k x.key = false) : hasI v k = true ∧ childI v k = some x := by
  obtain ⟨y, r, hy, hlow⟩ := hh
  have hpos : 0 < v.ents.length := by rw [hy]; simp
  have hxe : v.ents[v.ents.length - 1] = x := (List.getElem?_eq_some_iff.1 hx).2
  have hall : ∀ i (hi : i < v.ents.length), i < v.ents.length - 1 → lt v.ents[i].key k = true := by
    intro i hi hil
    have h1 := (List.pairwise_iff_getElem.1 hu) i (v.ents.length - 1) hi (by omega) hil
    rw [hxe] at h1
    cases q : lt v.ents[i].key k with
    | true => rfl
    | false =>
      cases q2 : lt k v.ents[i].key with
      | true => rw [lt_trans q2 h1] at hk; cases hk
      | false => rw [lt_total q q2] at h1; rw [h1] at hk; cases hk
  have hlo : lt k v.low = false := by
    cases q : lt k v.low with
    | false => rfl
    | true =>
      rw [← hlow] at q
      have hy0 : v.ents[0] = y := by simp [hy]
      rcases Nat.eq_or_lt_of_le (show 1 ≤ v.ents.length by omega) with e | e
      · have : v.ents[v.ents.length - 1] = v.ents[0] := by congr 1; omega
        rw [hxe, hy0] at this
        rw [this, q] at hk; cases hk
      · have := hall 0 (by omega) (by omega)
        rw [hy0] at this
        rw [lt_asymm this] at q; cases q
  have hhas : hasI v k = true := by simp [hasI, inS, hlo, hb]
  refine ⟨hhas, ?_⟩
  have hpl : ∀ n, n ≤ v.ents.length - 1 → n ≤ placeE v.ents k := by
    intro n
    induction n with
    | zero => intro _; omega
    | succ n ih =>
      intro hn
      exact (placeE_at (x := v.ents[n]'(by omega)) (ih (by omega)) (by rw [List.getElem?_eq_getElem])).1 (hall n (by omega) (by omega))
  have h1 := hpl _ (Nat.le_refl _)
  have h2 := placeE_le v.ents k
  have key : placeE v.ents k + (if thereE v.ents k then 1 else 0) = v.ents.length := by
    cases q : lt x.key k with
    | true =>
      have h3 := (placeE_at h1 hx).1 q
      rw [thereE_end (by omega)]
      simp; omega
    | false =>
      have e : placeE v.ents k = v.ents.length - 1 := by
        rcases Nat.lt_or_ge (v.ents.length - 1) (placeE v.ents k) with z | z
        · have := (placeE_at h1 hx).2 (by omega)
          rw [q] at this; cases this
        · omega
      have hxk : x.key = k := lt_total q hk
      have : thereE v.ents k = true := by
        rw [thereE_at (x := x) (by rw [e]; exact hx)]
        simp [hxk]
      rw [this, e]; simp; omega
  unfold childI
  have hne : decide (v.ents.length = 0) = false := by simp only [decide_eq_false_iff_not]; omega
  simp only [key, hhas, hne]
  simpa using hx
theorem lasts {p : Page} {a : Above} {k : Str} {l : Limits} {x : Entry} (hh : headOk p.inner) (hu : Up p.inner.ents) (hl : p.leaf = false) (hb : p.inner.unb = true) (hx : p.inner.ents[p.inner.ents.length - 1]? = some x) (hk : strLt k x.key = false) :
    backP p [] true false = decideP p a k l false := by
  rw [strLt_lt] at hk
  obtain ⟨h1, h2⟩ := childI_last hh hu hb hx hk
  have hpos : p.inner.ents.length - 1 + 1 = p.inner.ents.length := by
    have := (List.getElem?_eq_some_iff.1 hx).1
    omega
  have h3 : lastE p.inner.ents [] true p.inner.ents.length = some x := by
    rw [← hpos, lastE]
    simp [List.getD, hx]
  have h4 : hasP p k = true := by
    simpa [hasP, lowP, highP, unbP, hl, hasI] using h1
  unfold backP decideP
  simp [hl, h3, h2, h4, unbP, hb, downP]
end Go.Proofs.Ytehhgamkijkjgaa.AM.TT
