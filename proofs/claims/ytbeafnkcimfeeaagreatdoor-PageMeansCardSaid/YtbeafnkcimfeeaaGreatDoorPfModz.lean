/- Contracts of the functions and their models, by the abstract machine. -/
import Derived.Test.YtbeafnkcimfeeaaGreatDoorPfMod4
/- Models (5): entries in rising order; what a plan says. -/
namespace Go.Proofs.YtbeafnkcimfeeaaGreatDoor.AM.TT
set_option linter.unusedVariables false
set_option linter.unusedSimpArgs false
open Go Go.Proofs.YtbeafnkcimfeeaaGreatDoor.AM
set_option linter.unusedSimpArgs false
set_option linter.unusedVariables false
theorem strLt_lt : ∀ a b : Str, strLt a b = lt a b
  | a, [] => by cases a <;> simp [strLt, Op.bytesLess, lt]
  | [], b :: s => by simp [strLt, Op.bytesLess, lt]
  | a :: r, b :: s => by
    have h := strLt_lt r s
    unfold strLt at h
    unfold strLt
    rw [Op.bytesLess, lt, h]
    by_cases e : a = b
    · subst e
      simp
    · simp [e]
def Up (l : List Entry) : Prop := l.Pairwise fun a b => lt a.key b.key = true
theorem Up_rising {v : IView} (h : risingI v = true) : Up v.ents := by
  rw [risingI_iff] at h
  unfold Up
  rw [List.pairwise_iff_getElem]
  have key : ∀ (d i : Nat) (hi : i < v.ents.length) (hj : i + d + 1 < v.ents.length), lt v.ents[i].key v.ents[i + d + 1].key = true := by
    intro d
    induction d with
    | zero =>
      intro i hi hj
      have := (h (i + 1) hj).2 (by omega)
      simpa [List.getD, hi, hj] using this
    | succ d ih =>
      intro i hi hj
      have h1 := ih i hi (by omega)
      have h2 := (h (i + (d + 1) + 1) hj).2 (by omega)
      have h3 : lt v.ents[i + d + 1].key v.ents[i + (d + 1) + 1].key = true := by
        have e1 : i + (d + 1) + 1 - 1 = i + d + 1 := by omega
        rw [e1] at h2
        simpa [List.getD, hj, show i + d + 1 < v.ents.length by omega] using h2
      exact lt_trans h1 h3
  intro i j hi hj hij
  have := key (j - i - 1) i hi (by omega)
  have e : i + (j - i - 1) + 1 = j := by omega
  simpa only [e] using this
theorem Up_take {l : List Entry} (h : Up l) (n : Nat) : Up (l.take n) := List.Pairwise.sublist (List.take_sublist n l) h
theorem Up_drop {l : List Entry} (h : Up l) (n : Nat) : Up (l.drop n) := List.Pairwise.sublist (List.drop_sublist n l) h
theorem Up_across {l : List Entry} (h : Up l) (n : Nat) : ∀ x ∈ l.take n, ∀ y ∈ l.drop n, lt x.key y.key = true := by
  have e := List.take_append_drop n l
  unfold Up at h
  rw [← e, List.pairwise_append] at h
  exact h.2.2
theorem before {l : List Entry} {k : Str} {x : Entry} (hx : x ∈ l.take (placeE l k)) : lt x.key k = true := by
  obtain ⟨i, hi⟩ := List.getElem?_of_mem hx
  have hlt := (List.getElem?_eq_some_iff.1 hi).1
  simp only [List.length_take] at hlt
  rw [List.getElem?_take] at hi
  split at hi
  · exact (placeE_at (n := i) (by omega) hi).2 (by omega)
  · cases hi
theorem behind {l : List Entry} {k : Str} (h : Up l) (ht : thereE l k = false) {y : Entry} (hy : y ∈ l.drop (placeE l k)) : lt k y.key = true := by
  cases hd : l.drop (placeE l k) with
  | nil => rw [hd] at hy; cases hy
  | cons z r =>
    have hz : l[placeE l k]? = some z := by
      have : (l.drop (placeE l k))[0]? = some z := by rw [hd]; rfl
      simpa using this
    have h1 : lt z.key k = false := by
      cases q : lt z.key k with
      | false => rfl
      | true => have := (placeE_at (Nat.le_refl _) hz).1 q; omega
    rw [thereE_at hz] at ht
    have h2 : lt k z.key = true := by
      cases q : lt k z.key with
      | true => rfl
      | false => exact absurd (lt_total h1 q) (by simpa using ht)
    rw [hd] at hy
    have hu := Up_drop h (placeE l k)
    unfold Up at hu
    rw [hd, List.pairwise_cons] at hu
    rcases List.mem_cons.1 hy with e | e
    · rw [e]; exact h2
    · exact lt_trans h2 (hu.1 y e)
theorem Up_put {l : List Entry} {e : Entry} (h : Up l) (ht : thereE l e.key = false) : Up (l.take (placeE l e.key) ++ e :: l.drop (placeE l e.key)) := by
  unfold Up
  rw [List.pairwise_append, List.pairwise_cons]
  refine ⟨Up_take h _, ⟨fun y hy => behind h ht hy, Up_drop h _⟩, fun x hx y hy => ?_⟩
  rcases List.mem_cons.1 hy with e | e
  · rw [e]; exact before hx
  · exact Up_across h _ x hx y e
theorem Up_cut {l : List Entry} (h : Up l) (n : Nat) : Up (l.take n ++ l.drop (n + 1)) := by
  refine List.Pairwise.sublist (l₂ := l) ?_ h
  conv => rhs; rw [← List.take_append_drop n l]
  refine List.Sublist.append (List.Sublist.refl _) ?_
  rw [show n + 1 = 1 + n by omega, ← List.drop_drop]
  first
    | exact List.drop_sublist _ _
    | (rw [List.drop_drop, Nat.add_comm, ← List.drop_drop]; exact List.drop_sublist _ _)
theorem upI_up {v : IView} {r : Rec} (h : Up v.ents) : Up (upI v r).1.ents := by
  unfold upI
  split
  · split
    · exact h
    · rename_i hn
      simp only [Bool.or_eq_true, not_or, Bool.not_eq_true] at hn
      exact Up_put (e := ⟨r.key, r.page⟩) h hn.1
  · split
    · split
      · exact h
      · exact Up_take h _
    · split
      · split
        · exact h
        · exact h
      · split
        · exact Up_cut h _
        · exact h
theorem goUpI_up {l : List Rec} {w : IView} : ∀ (n : Nat) (v : IView), Up v.ents → goUpI l n v = some w → Up w.ents
  | 0, v, h, e => by simp [goUpI] at e; subst e; exact h
  | n + 1, v, h, e => by
    rw [goUpI] at e
    split at e
    · exact goUpI_up n _ (upI_up h) e
    · cases e
theorem foldI_up {l : List Rec} {w : IView} (h : foldI l = .ok w) : Up w.ents := by
  unfold foldI at h
  split at h
  · split at h
    · split at h
      · split at h
        · rename_i hs
          split at h
          · rename_i w' hw
            simp at h; subst h
            simp only [soundI, Bool.and_eq_true] at hs
            exact goUpI_up _ _ (Up_rising hs.2) hw
          · cases h
        · cases h
      · cases h
    · cases h
  · cases h
theorem place_own {l : List Entry} (h : Up l) {i : Nat} {x : Entry} (hi : l[i]? = some x) : placeE l x.key = i := by
  have hlt := (List.getElem?_eq_some_iff.1 hi).1
  have hx := (List.getElem?_eq_some_iff.1 hi).2
  have key : ∀ n, n ≤ i → n ≤ placeE l x.key := by
    intro n
    induction n with
    | zero => intro _; omega
    | succ n ih =>
      intro hn
      have hnl : n < l.length := by omega
      refine (placeE_at (x := l[n]) (ih (by omega)) (by simp [hnl])).1 ?_
      have := (List.pairwise_iff_getElem.1 h) n i hnl hlt (by omega)
      rw [hx] at this
      exact this
  have h1 := key i (Nat.le_refl _)
  rcases Nat.lt_or_ge i (placeE l x.key) with q | q
  · have := (placeE_at (k := x.key) h1 hi).2 (by omega)
    rw [lt_irrefl] at this; cases this
  · omega
theorem there_own {l : List Entry} (h : Up l) {i : Nat} {x : Entry} (hi : l[i]? = some x) : thereE l x.key = true := by
  have := place_own h hi
  rw [thereE_at (x := x) (by rw [this]; exact hi)]
  simp
theorem hold4_there {v : IView} {pg : Int} {h : Hold} (hu : Up v.ents) (e : hold4 v pg = some h) : h.page = pg ∧ thereE v.ents h.key = true := by
  unfold hold4 at e
  split at e
  · rename_i i hi
    simp at e; subst e
    unfold findI at hi
    have hm := List.mem_of_find?_eq_some hi
    rw [List.mem_range] at hm
    refine ⟨rfl, ?_⟩
    have hx : v.ents[i]? = some v.ents[i] := by simp [hm]
    have := there_own hu hx
    simpa [List.getD, hm] using this
  · cases e
theorem places {p : Page} {a : Above} {k : Str} {l : Limits} {w : Bool} {X : Plan} (hu : Up a.view.ents) (hX : decideP p a k l w = X) :
    (X.kind = 10 → p.leaf = true ∧ hasP p k = true ∧ p.rows.gone = false) ∧
    (X.kind = 1 → p.leaf = false ∧ hasP p k = true ∧ ∃ e, childI p.inner k = some e ∧ e.page = X.to) ∧
    (X.kind = 2 → X.to = rightP p ∧ unbP p = false ∧ strLt k (lowP p) = false ∧ strLt k (highP p) = false) ∧
    (X.kind = 4 → a.some = true ∧ w = true ∧ X.entry.key = highP p ∧ X.entry.page = rightP p ∧ thereE a.view.ents (highP p) = false) ∧
    (X.kind = 7 → l.rows < sizeP p ∧ p.n ≠ 0) ∧ (X.kind = 8 → l.rows < sizeP p ∧ p.n = 0) ∧
    (X.kind = 9 → p.leaf = true ∧ sizeP p = 0 ∧ X.hold.page = p.n ∧ thereE a.view.ents X.hold.key = true) ∧
    (X.kind = 6 → l.chain < p.chain.length) ∧
    (X.kind = 1 ∨ X.kind = 2 ∨ X.kind = 3 ∨ X.kind = 4 ∨ X.kind = 5 ∨ X.kind = 6 ∨ X.kind = 7 ∨ X.kind = 8 ∨ X.kind = 9 ∨ X.kind = 10) := by
  have h0 : 0 ≤ sizeP p := by unfold sizeP; omega
  subst hX
  rw [strLt_lt, strLt_lt]
  unfold decideP
  split
  · simp [plan]
  · split
    · simp
    · split
      · rename_i hn
        simp only [hasP, inS, Bool.not_eq_true', Bool.and_eq_false_imp, Bool.not_eq_true'] at hn
        unfold beyondP
        split
        · simp [plan]
        · rename_i hl
          have := hn (by simpa using hl)
          simp only [Bool.or_eq_false_iff] at this
          split
          · rename_i hb
            simp only [Bool.and_eq_true, Bool.not_eq_true'] at hb
            simp [hb.1.1.1.1, hb.1.1.1.2, hb.2]
          · simp [this.1, this.2, hl]
      · rename_i hg _ hn
        split
        · rename_i hw
          simp only [Bool.and_eq_true] at hw
          have hw2 := hw.2
          unfold upkeepP at hw2 ⊢
          split
          · rename_i q; simp [plan, q]
          · split
            · rename_i q; simp [plan, q]
            · split
              · rename_i q1 q2; simp [plan, q2]; intro q; exact q1 ⟨q2, q⟩
              · split
                · simp_all
                · rename_i q1 q2 q3 q4
                  simp only [Bool.or_eq_true, not_or, Bool.not_eq_true, Bool.not_eq_false', decide_eq_true_eq, Bool.not_eq_eq_eq_not, Bool.not_true, decide_eq_false_iff_not] at q4
                  split
                  · rename_i h hh
                    obtain ⟨g1, g2⟩ := hold4_there hu hh
                    simp [g1, g2]
                    refine ⟨by simpa using q4.1.1.1, by have := q4.1.1.2; simp at this; omega⟩
                  · rename_i hh
                    simp_all
        · split
          · rename_i hl
            simp at hn hg
            simp [plan, hl, hn, hg]
          · rename_i hl
            split
            · rename_i e he
              simp at hn hl
              simp [hl, hn, he]
            · simp [plan]
end Go.Proofs.YtbeafnkcimfeeaaGreatDoor.AM.TT
/- Models (6): a plan from above. -/
namespace Go.Proofs.YtbeafnkcimfeeaaGreatDoor.AM.TT
set_option linter.unusedVariables false
set_option linter.unusedSimpArgs false
open Go Go.Proofs.YtbeafnkcimfeeaaGreatDoor.AM
set_option linter.unusedSimpArgs false
set_option linter.unusedVariables false
end Go.Proofs.YtbeafnkcimfeeaaGreatDoor.AM.TT
/- Models (7): the last child of an inner page. -/
namespace Go.Proofs.YtbeafnkcimfeeaaGreatDoor.AM.TT
set_option linter.unusedVariables false
set_option linter.unusedSimpArgs false
open Go Go.Proofs.YtbeafnkcimfeeaaGreatDoor.AM
set_option linter.unusedSimpArgs false
set_option linter.unusedVariables false
def headOk (v : IView) : Prop := ∃ x r, v.ents = x :: r ∧ x.key = v.low
def heldOk2 (v : IView) : Prop := v.held = true → placeE v.ents v.hold.key ≠ 0
theorem headOk_base {b : Rec} (h : soundI (baseI b) = true) : headOk (baseI b) := by
  simp only [soundI, Bool.and_eq_true] at h
  have h1 := h.1.1
  unfold headOk
  cases he : (baseI b).ents with
  | nil => rw [he] at h1; simp at h1
  | cons x r => rw [he] at h1; exact ⟨x, r, rfl, by simpa using h1⟩
theorem headOk_put {v : IView} {e : Entry} (h : headOk v) (hu : Up v.ents) (ht : thereE v.ents e.key = false) (hh : hasI v e.key = true) :
    ∃ x r, v.ents.take (placeE v.ents e.key) ++ e :: v.ents.drop (placeE v.ents e.key) = x :: r ∧ x.key = v.low := by
  obtain ⟨x, r, hx, hk⟩ := h
  have hne : placeE v.ents e.key ≠ 0 := by
    intro q
    have h1 := behind hu ht (y := x) (by rw [q, hx]; simp)
    rw [hk] at h1
    simp only [hasI, inS, Bool.and_eq_true, Bool.not_eq_true'] at hh
    rw [hh.1] at h1; cases h1
  obtain ⟨m, hm⟩ : ∃ m, placeE v.ents e.key = m + 1 := ⟨placeE v.ents e.key - 1, by omega⟩
  rw [hm, hx]
  exact ⟨x, _, rfl, hk⟩
theorem headOk_take {v : IView} {n : Nat} {l : List Entry} (h : headOk v) (hn : n ≠ 0) : ∃ x r, v.ents.take n ++ l = x :: r ∧ x.key = v.low := by
  obtain ⟨x, r, hx, hk⟩ := h
  obtain ⟨m, rfl⟩ : ∃ m, n = m + 1 := ⟨n - 1, by omega⟩
  rw [hx]
  exact ⟨x, _, rfl, hk⟩
theorem upI_head {v : IView} {r : Rec} (h : headOk v) (hu : Up v.ents) (hh : heldOk2 v) : headOk (upI v r).1 ∧ heldOk2 (upI v r).1 := by
  unfold upI
  split
  · rename_i hc
    split
    · exact ⟨h, hh⟩
    · rename_i hn
      simp only [Bool.or_eq_true, not_or, Bool.not_eq_true, Bool.not_eq_false'] at hn
      exact ⟨headOk_put (e := ⟨r.key, r.page⟩) h hu hn.1 (by simpa using hn.2), fun q => by simp [hc.2] at q⟩
  · split
    · rename_i hc
      split
      · exact ⟨h, hh⟩
      · rename_i hn
        simp only [Bool.or_eq_true, not_or, decide_eq_true_eq] at hn
        refine ⟨?_, fun q => by simp [hc.2] at q⟩
        have := headOk_take (l := []) h hn.2
        simpa [headOk] using this
    · split
      · split
        · exact ⟨h, hh⟩
        · rename_i hn
          simp only [Bool.or_eq_true, not_or, decide_eq_true_eq] at hn
          exact ⟨h, fun _ => hn.1.1.2⟩
      · split
        · rename_i hc
          refine ⟨headOk_take h (hh hc.2), fun q => by simp at q⟩
        · exact ⟨h, hh⟩
theorem goUpI_head {l : List Rec} {w : IView} : ∀ (n : Nat) (v : IView), headOk v → Up v.ents → heldOk2 v → goUpI l n v = some w → headOk w
  | 0, v, h, _, _, e => by simp [goUpI] at e; subst e; exact h
  | n + 1, v, h, hu, hh, e => by
    rw [goUpI] at e
    split at e
    · have := upI_head (r := l.getD n default) h hu hh
      exact goUpI_head n _ this.1 (upI_up hu) this.2 e
    · cases e
theorem foldI_head {l : List Rec} {w : IView} (h : foldI l = .ok w) : headOk w := by
  unfold foldI at h
  split at h
  · split at h
    · split at h
      · split at h
        · rename_i hs
          split at h
          · rename_i w' hw
            simp at h; subst h
            have hs2 := hs
            simp only [soundI, Bool.and_eq_true] at hs2
            exact goUpI_head _ _ (headOk_base hs) (Up_rising hs2.2) (fun q => by simp [baseI] at q) hw
          · cases h
        · cases h
      · cases h
    · cases h
  · cases h
end Go.Proofs.YtbeafnkcimfeeaaGreatDoor.AM.TT
/- Models (8): what the plain definitions compute. -/
namespace Go.Proofs.YtbeafnkcimfeeaaGreatDoor.AM.TT
set_option linter.unusedVariables false
set_option linter.unusedSimpArgs false
open Go Go.Proofs.YtbeafnkcimfeeaaGreatDoor.AM
set_option linter.unusedSimpArgs false
set_option linter.unusedVariables false
theorem lt_at {a b : Str} {n : Nat} {x y : UInt8} (hx : a[n]? = some x) (hy : b[n]? = some y) : lt (a.drop n) (b.drop n) = if x = y then lt (a.drop (n + 1)) (b.drop (n + 1)) else decide (x < y) := by
  obtain ⟨h1, h2⟩ := List.getElem?_eq_some_iff.1 hx
  obtain ⟨h3, h4⟩ := List.getElem?_eq_some_iff.1 hy
  rw [List.drop_eq_getElem_cons h1, List.drop_eq_getElem_cons h3, h2, h4, lt]
theorem lt_end {a b : Str} {n : Nat} (h1 : n = a.length) (h2 : n < b.length) : lt (a.drop n) (b.drop n) = true := by
  rw [List.drop_eq_getElem_cons h2, List.drop_eq_nil_of_le (by omega : a.length ≤ n), lt]
theorem lt_nil {a b : Str} {n : Nat} (h1 : b.length ≤ n) : lt (a.drop n) (b.drop n) = false := by
  rw [List.drop_eq_nil_of_le h1]
  cases a.drop n <;> rfl
end Go.Proofs.YtbeafnkcimfeeaaGreatDoor.AM.TT
/- Models (9): the plain folding of a leaf's chain. -/
namespace Go.Proofs.YtbeafnkcimfeeaaGreatDoor.AM.TT
set_option linter.unusedVariables false
set_option linter.unusedSimpArgs false
open Go Go.Proofs.YtbeafnkcimfeeaaGreatDoor.AM
set_option linter.unusedSimpArgs false
set_option linter.unusedVariables false
def UpR (l : List Row) : Prop := l.Pairwise fun a b => lt a.key b.key = true
theorem UpR_right {l : List Row} (h : rightR l = true) : UpR l ∧ ∀ r ∈ l, fitsK r = true := by
  rw [rightR_iff] at h
  refine ⟨?_, fun r hr => ?_⟩
  · unfold UpR
    rw [List.pairwise_iff_getElem]
    have key : ∀ (d i : Nat) (hi : i < l.length) (hj : i + d + 1 < l.length), lt l[i].key l[i + d + 1].key = true := by
      intro d
      induction d with
      | zero =>
        intro i hi hj
        have := (h (i + 1) hj).2 (by omega)
        simpa [List.getD, hi, hj] using this
      | succ d ih =>
        intro i hi hj
        have h1 := ih i hi (by omega)
        have h2 := (h (i + (d + 1) + 1) hj).2 (by omega)
        have h3 : lt l[i + d + 1].key l[i + (d + 1) + 1].key = true := by
          have e1 : i + (d + 1) + 1 - 1 = i + d + 1 := by omega
          rw [e1] at h2
          simpa [List.getD, hj, show i + d + 1 < l.length by omega] using h2
        exact lt_trans h1 h3
    intro i j hi hj hij
    have := key (j - i - 1) i hi (by omega)
    have e : i + (j - i - 1) + 1 = j := by omega
    simpa only [e] using this
  · obtain ⟨i, hi⟩ := List.getElem?_of_mem hr
    have hlt := (List.getElem?_eq_some_iff.1 hi).1
    have := (h i hlt).1
    simpa [List.getD, hi] using this
theorem beforeR {l : List Row} {k : Str} {x : Row} (hx : x ∈ l.take (place l k)) : lt x.key k = true := by
  obtain ⟨i, hi⟩ := List.getElem?_of_mem hx
  have hlt := (List.getElem?_eq_some_iff.1 hi).1
  simp only [List.length_take] at hlt
  rw [List.getElem?_take] at hi
  split at hi
  · exact (place_at (n := i) (by omega) hi).2 (by omega)
  · cases hi
theorem thereR_at {l : List Row} {k : Str} {x : Row} (h : l[place l k]? = some x) : there l k = decide (x.key = k) := by
  unfold there; rw [h]
theorem atR {l : List Row} {k : Str} {z : Row} (hz : l[place l k]? = some z) : lt z.key k = false := by
  cases q : lt z.key k with
  | false => rfl
  | true => have := (place_at (Nat.le_refl _) hz).1 q; omega
theorem notahead {l : List Row} {k : Str} (h : UpR l) {y : Row} (hy : y ∈ l.drop (place l k)) : lt y.key k = false := by
  cases hd : l.drop (place l k) with
  | nil => rw [hd] at hy; cases hy
  | cons z r =>
    have hz : l[place l k]? = some z := by
      have : (l.drop (place l k))[0]? = some z := by rw [hd]; rfl
      simpa using this
    have h1 := atR hz
    rw [hd] at hy
    have hu : UpR (l.drop (place l k)) := List.Pairwise.sublist (List.drop_sublist _ l) h
    unfold UpR at hu
    rw [hd, List.pairwise_cons] at hu
    rcases List.mem_cons.1 hy with e | e
    · rw [e]; exact h1
    · cases q : lt y.key k with
      | false => rfl
      | true => rw [lt_trans (hu.1 y e) q] at h1; cases h1
theorem behindR {l : List Row} {k : Str} (h : UpR l) {y : Row} (hy : y ∈ l.drop (place l k + if there l k then 1 else 0)) : lt k y.key = true := by
  cases ht : there l k with
  | true =>
    rw [ht] at hy
    have hlt := place_lt ht
    have hz : l[place l k]? = some l[place l k] := by simp [hlt]
    have he := thereR_at hz
    rw [ht] at he
    have he : l[place l k].key = k := by simpa using he.symm
    obtain ⟨i, hi⟩ := List.getElem?_of_mem hy
    simp only [if_true, List.getElem?_drop] at hi
    obtain ⟨h1, h2⟩ := List.getElem?_eq_some_iff.1 hi
    have := (List.pairwise_iff_getElem.1 h) (place l k) _ hlt h1 (by omega)
    rw [h2, he] at this
    exact this
  | false =>
    rw [ht] at hy
    have h1 := notahead h (by simpa using hy)
    cases q : lt k y.key with
    | true => rfl
    | false =>
      have he := lt_total h1 q
      exfalso
      cases hd : l.drop (place l k) with
      | nil => simp [hd] at hy
      | cons z r =>
        have hz : l[place l k]? = some z := by
          have : (l.drop (place l k))[0]? = some z := by rw [hd]; rfl
          simpa using this
        have hu : UpR (l.drop (place l k)) := List.Pairwise.sublist (List.drop_sublist _ l) h
        unfold UpR at hu
        rw [hd, List.pairwise_cons] at hu
        rw [thereR_at hz] at ht
        have hzk : z.key ≠ k := by simpa using ht
        simp [hd] at hy
        rcases hy with e | e
        · rw [e] at he; exact hzk he
        · have h3 := hu.1 y e
          rw [he] at h3
          rw [atR hz] at h3; cases h3
theorem UpR_put {l : List Row} {r : Row} (h : UpR l) : UpR (putR l r (there l r.key)) := by
  unfold putR UpR
  rw [List.pairwise_append, List.pairwise_cons]
  refine ⟨List.Pairwise.sublist (List.take_sublist _ l) h, ⟨fun y hy => behindR h hy, List.Pairwise.sublist (List.drop_sublist _ l) h⟩, fun x hx y hy => ?_⟩
  rcases List.mem_cons.1 hy with e | e
  · rw [e]; exact beforeR hx
  · exact lt_trans (beforeR hx) (behindR h e)
theorem put_mem {l : List Row} {r x : Row} {t : Bool} (h : x ∈ putR l r t) : x = r ∨ x ∈ l := by
  unfold putR at h
  rw [List.mem_append, List.mem_cons] at h
  rcases h with h | h | h
  · exact .inr (List.mem_of_mem_take h)
  · exact .inl h
  · exact .inr (List.mem_of_mem_drop h)
theorem drop_sub {l : List Row} {k : Str} : List.Sublist (dropR l k) l := by
  unfold dropR
  split
  · conv => rhs; rw [← List.take_append_drop (place l k) l]
    refine List.Sublist.append (List.Sublist.refl _) ?_
    rw [show place l k + 1 = 1 + place l k by omega, ← List.drop_drop]
    first
      | exact List.drop_sublist _ _
      | (rw [List.drop_drop, Nat.add_comm, ← List.drop_drop]; exact List.drop_sublist _ _)
  · exact List.Sublist.refl _
theorem filter_take {l : List Row} {k : Str} (h : UpR l) : (l.filter fun r => lt r.key k) = l.take (place l k) := by
  conv => lhs; rw [← List.take_append_drop (place l k) l]
  rw [List.filter_append]
  have h1 : (l.take (place l k)).filter (fun r => lt r.key k) = l.take (place l k) := List.filter_eq_self.2 fun x hx => beforeR hx
  have h2 : (l.drop (place l k)).filter (fun r => lt r.key k) = [] := by
    rw [List.filter_eq_nil_iff]
    intro x hx
    rw [notahead h hx]; simp
  rw [h1, h2, List.append_nil]
def SV (v : LView) : Prop := UpR v.rows ∧ (∀ r ∈ v.rows, fitsK r = true) ∧ ∀ r ∈ v.rows, inS v.low v.high v.unb r.key = true
theorem SV_sound {b : Rec} (h : soundL b.rows b.low b.high b.unb = true) : SV (baseV b) := by
  simp only [soundL, Bool.and_eq_true, List.all_eq_true] at h
  obtain ⟨h1, h2⟩ := UpR_right h.1.2
  exact ⟨h1, h2, h.2⟩
def refV (v : LView) (r : Rec) : LView × Bool :=
  if r.kind = 2 then ({ v with rows := putR v.rows ⟨r.key, r.val⟩ (there v.rows r.key) }, fitsK ⟨r.key, r.val⟩ && hasV v r.key)
  else if r.kind = 3 then ({ v with rows := dropR v.rows r.key }, hasV v r.key)
  else if r.kind = 4 then ({ v with rows := v.rows.filter (fun x => lt x.key r.key), high := r.key, unb := false, right := r.page }, hasV v r.key && !decide (r.key = v.low))
  else if r.kind = 5 then ({ v with gone := true }, true)
  else ({ v with rows := v.rows ++ r.rows, high := r.high, unb := r.unb, right := r.right }, !v.unb && decide (v.high = r.key) && !lt r.key v.low && soundL r.rows r.key r.high r.unb && (r.unb || lt r.key r.high))
theorem in_mono {low high : Str} {u : Bool} {k k2 : Str} (h : inS low high u k = true) (h2 : lt k k2 = true) : inS low k2 false k = true := by
  simp only [inS, Bool.and_eq_true] at h ⊢
  exact ⟨h.1, by simp [h2]⟩
theorem refV_upV {v : LView} {r : Rec} (hs : SV v) (hg : v.gone = false) (hk : r.kind = 2 ∨ r.kind = 3 ∨ r.kind = 4 ∨ r.kind = 5 ∨ r.kind = 6) :
    (upV v r).2 = (refV v r).2 ∧ ((refV v r).2 = true → (upV v r).1 = (refV v r).1 ∧ SV (refV v r).1 ∧ ((refV v r).1.gone = true → r.kind = 5)) := by
  obtain ⟨s1, s2, s3⟩ := hs
  rcases hk with h | h | h | h | h
  · unfold upV refV
    rw [if_pos h, if_pos h]
    cases hf : fitsK ⟨r.key, r.val⟩ with
    | false => simp
    | true =>
      simp only [if_true, hg, Bool.not_false, Bool.true_and]
      refine ⟨trivial, fun q => ⟨trivial, ⟨UpR_put (r := ⟨r.key, r.val⟩) s1, fun x hx => ?_, fun x hx => ?_⟩, fun z => by simp [hg] at z⟩⟩
      · rcases put_mem hx with e | e
        · rw [e]; exact hf
        · exact s2 x e
      · rcases put_mem hx with e | e
        · rw [e]; exact q
        · exact s3 x e
  · unfold upV refV
    rw [if_neg (by omega), if_pos h, if_neg (by omega), if_pos h]
    simp only [hg, Bool.not_false, Bool.true_and]
    refine ⟨trivial, fun q => ⟨trivial, ⟨List.Pairwise.sublist drop_sub s1, fun x hx => s2 x (drop_sub.mem hx), fun x hx => s3 x (drop_sub.mem hx)⟩, fun z => by simp [hg] at z⟩⟩
  · unfold upV refV
    rw [if_neg (by omega), if_neg (by omega), if_pos h, if_neg (by omega), if_neg (by omega), if_pos h]
    simp only [hg, Bool.not_false, Bool.true_and, filter_take s1]
    refine ⟨?_, fun q => ⟨trivial, ⟨List.Pairwise.sublist (List.take_sublist _ _) s1, fun x hx => s2 x (List.mem_of_mem_take hx), fun x hx => ?_⟩, fun z => by simp [hg] at z⟩⟩
    · cases hh : hasV v r.key with
      | false => simp
      | true =>
        simp only [Bool.true_and]
        simp only [hasV, inS, Bool.and_eq_true, Bool.not_eq_true'] at hh
        cases q : lt v.low r.key with
        | true =>
          symm
          simp only [Bool.not_eq_true', decide_eq_false_iff_not]
          intro e
          rw [e, lt_irrefl] at q; cases q
        | false =>
          have := lt_total q hh.1
          symm
          simp [this]
    · exact in_mono (s3 x (List.mem_of_mem_take hx)) (beforeR hx)
  · unfold upV refV
    rw [if_neg (by omega), if_neg (by omega), if_neg (by omega), if_neg (by omega), if_pos h, if_neg (by omega), if_neg (by omega), if_neg (by omega), if_pos h]
    simp only [hg, Bool.not_false]
    exact ⟨trivial, fun q => ⟨trivial, ⟨s1, s2, s3⟩, fun _ => h⟩⟩
  · unfold refV
    rw [if_neg (by omega), if_neg (by omega), if_neg (by omega), if_neg (by omega)]
    unfold upV
    rw [if_neg (by omega), if_neg (by omega), if_neg (by omega), if_pos h]
    simp only [hg, Bool.not_false, Bool.true_and]
    cases hq : (!v.unb && decide (v.high = r.key) && !lt r.key v.low && soundL r.rows r.key r.high r.unb && (r.unb || lt r.key r.high)) with
    | false =>
      refine ⟨?_, fun q => by cases q⟩
      split
      · rw [← hq]
        simp only [Bool.and_assoc]
        cases !v.unb <;> cases decide (v.high = r.key) <;> cases soundL r.rows r.key r.high r.unb <;> cases !lt r.key v.low <;> simp
      · rfl
    | true =>
      simp only [Bool.and_eq_true, Bool.not_eq_true', decide_eq_true_eq] at hq
      obtain ⟨⟨⟨⟨hu, hh⟩, hl⟩, hso⟩, hend⟩ := hq
      have hso2 := hso
      simp only [soundL, Bool.and_eq_true, List.all_eq_true] at hso2
      obtain ⟨r1, r2⟩ := UpR_right hso2.1.2
      have r3 := hso2.2
      have hv : ∀ x ∈ v.rows, lt x.key r.key = true := by
        intro x hx
        have := s3 x hx
        simp only [inS, hu, Bool.false_or, Bool.and_eq_true] at this
        rw [hh] at this
        exact this.2
      have hw : ∀ y ∈ r.rows, lt y.key r.key = false := by
        intro y hy
        have := r3 y hy
        simp only [inS, Bool.and_eq_true, Bool.not_eq_true'] at this
        exact this.1
      have hvw : ∀ x ∈ v.rows, ∀ y ∈ r.rows, lt x.key y.key = true := by
        intro x hx y hy
        cases q : lt x.key y.key with
        | true => rfl
        | false =>
          have h1 := hv x hx
          have h2 := hw y hy
          cases q2 : lt y.key x.key with
          | true => rw [lt_trans q2 h1] at h2; cases h2
          | false => rw [lt_total q q2] at h1; rw [h1] at h2; cases h2
      have hj : joinOk v.rows r.rows = true := by
        unfold joinOk
        split
        · rename_i x y hx hy
          exact hvw x (List.mem_of_getLast? hx) y (List.mem_of_head? hy)
        · rfl
      rw [if_pos hj]
      refine ⟨by simp [hu, hh, hl, hso, hend], fun _ => ⟨rfl, ⟨?_, fun x hx => ?_, fun x hx => ?_⟩, fun z => by simp [hg] at z⟩⟩
      · unfold UpR
        rw [List.pairwise_append]
        exact ⟨s1, r1, hvw⟩
      · rcases List.mem_append.1 hx with e | e
        · exact s2 x e
        · exact r2 x e
      · rcases List.mem_append.1 hx with e | e
        · have h1 := s3 x e
          simp only [inS, Bool.and_eq_true, Bool.or_eq_true] at h1 hend ⊢
          refine ⟨h1.1, ?_⟩
          rcases hend with q | q
          · exact .inl q
          · exact .inr (lt_trans (hv x e) q)
        · have h1 := r3 x e
          simp only [inS, Bool.and_eq_true, Bool.not_eq_true'] at h1 ⊢
          refine ⟨?_, h1.2⟩
          cases q : lt x.key v.low with
          | false => rfl
          | true =>
            exfalso
            cases q2 : lt v.low r.key with
            | true => rw [lt_trans q q2] at h1; cases h1.1
            | false => rw [lt_total q2 hl] at q; rw [q] at h1; cases h1.1
theorem goUp_gone {l : List Rec} : ∀ {n : Nat} {v : LView}, v.gone = true → 0 < n → goUp l n v = none
  | n + 1, v, hg, _ => by
    rw [goUp]
    have : (upV v (l.getD n default)).2 = false := by
      unfold upV
      split
      · split <;> simp [hg]
      · split
        · simp [hg]
        · split
          · simp [hg]
          · split
            · split <;> simp [hg]
            · split <;> simp [hg]
    rw [this]; simp
theorem goUp_kind1 {l : List Rec} {i : Nat} (hi : (l.getD i default).kind = 1) : ∀ {n : Nat} {v : LView}, i < n → goUp l n v = none
  | n + 1, v, h => by
    rw [goUp]
    split
    · rename_i hu
      rcases Nat.lt_or_ge i n with q | q
      · exact goUp_kind1 hi q
      · obtain rfl : i = n := by omega
        rw [upV_none (by omega) (by omega) (by omega) (by omega) (by omega)] at hu
        cases hu
    · rfl
theorem goUp_kind5 {l : List Rec} {i : Nat} (hi : (l.getD i default).kind = 5) (h0 : 0 < i) : ∀ {n : Nat} {v : LView}, i < n → goUp l n v = none
  | n + 1, v, h => by
    rw [goUp]
    split
    · rename_i hu
      rcases Nat.lt_or_ge i n with q | q
      · exact goUp_kind5 hi h0 q
      · obtain rfl : i = n := by omega
        refine goUp_gone ?_ h0
        unfold upV
        rw [if_neg (by omega), if_neg (by omega), if_neg (by omega), if_neg (by omega), if_pos hi]
    · rfl
theorem foldL_bad {l : List Rec} (h : ∀ j, j < l.length → kindL (l.getD j default) = true) (hl : 0 < l.length) (hb : ∀ v : LView, (l.getD (l.length - 1) default).kind = 1 → goUp l (l.length - 1) v = none) : foldL l = .error 10 := by
  have hx : l[l.length - 1]? = some (l.getD (l.length - 1) default) := by simp [List.getD, List.getElem?_eq_getElem (show l.length - 1 < l.length by omega)]
  rw [foldL_all h hx]
  split
  · rename_i hk
    split
    · rw [hb _ hk]
    · rfl
  · rfl
def InvL (l : List Rec) (x : Nat × LView × Bool) : Prop :=
  x.1 ≤ l.length - 1 ∧ (x.2.2 = true → SV x.2.1 ∧ (x.2.1.gone = true → x.1 = 0) ∧ x.2.1.rows.length + szL l x.1 ≤ 900000 ∧ foldL l = (match goUp l x.1 x.2.1 with | some w => .ok w | none => .error 10)) ∧ (x.2.2 = false → foldL l = .error 10)
theorem refStep {l : List Rec} {k : Nat} {v : LView} {X : Rec} (hk : X.kind = 2 ∨ X.kind = 3 ∨ X.kind = 4 ∨ X.kind = 5 ∨ X.kind = 6) (h5 : X.kind = 5 → k = 0) (hX : l[k]? = some X) (hg : v.gone = false)
    (hI : InvL l (k + 1, v, true)) : InvL l (k, (refV v X).1, (refV v X).2) := by
  obtain ⟨h1, h2, _⟩ := hI
  obtain ⟨hs, _, hb, hf⟩ := h2 rfl
  dsimp only at h1 hs hb hf
  obtain ⟨e1, e2⟩ := refV_upV (r := X) hs hg hk
  have hx' : l.getD k default = X := by simp [List.getD, hX]
  rw [goUp, hx'] at hf
  have hz := szL_succ hX
  have hlen := upV_len v X
  refine ⟨by dsimp only; omega, fun q => ?_, fun q => ?_⟩
  · dsimp only at q ⊢
    obtain ⟨g1, g2, g3⟩ := e2 q
    rw [e1, q, if_pos rfl, g1] at hf
    rw [g1] at hlen
    exact ⟨g2, fun z => h5 (g3 z), by omega, hf⟩
  · dsimp only at q
    rw [e1, q] at hf
    simpa using hf
theorem invL_base {l : List Rec} {b : Rec} {ok : Bool} (hall : ∀ j, j < l.length → kindL (l.getD j default) = true) (hb : l[l.length - 1]? = some b) (h1 : b.kind = 1) (hok : soundL b.rows b.low b.high b.unb = ok) (hs : szL l l.length ≤ 900000) : InvL l (l.length - 1, baseV b, ok) := by
  have hf := foldL_all hall hb
  rw [if_pos h1, hok] at hf
  have hlt := (List.getElem?_eq_some_iff.1 hb).1
  have hz := szL_succ hb
  have e2 : l.length - 1 + 1 = l.length := by omega
  rw [e2] at hz
  refine ⟨Nat.le_refl _, fun q => ?_, fun q => ?_⟩
  · dsimp only at q ⊢
    subst q
    rw [if_pos rfl] at hf
    exact ⟨SV_sound hok, fun z => by simp [baseV] at z, by simp only [baseV]; omega, hf⟩
  · dsimp only at q
    subst q
    simpa using hf
end Go.Proofs.YtbeafnkcimfeeaaGreatDoor.AM.TT
/- Models (10): the plain folding of an inner page's chain. -/
namespace Go.Proofs.YtbeafnkcimfeeaaGreatDoor.AM.TT
set_option linter.unusedVariables false
set_option linter.unusedSimpArgs false
open Go Go.Proofs.YtbeafnkcimfeeaaGreatDoor.AM
set_option linter.unusedSimpArgs false
set_option linter.unusedVariables false
def atE (l : List Entry) (k : Str) : Int := match (List.range l.length).find? (fun i => decide ((l.getD i default).key = k)) with | some i => i | none => -1
theorem atE_some {l : List Entry} {k : Str} {n : Nat} (hn : n < l.length) (h : ∀ j, j < n → (l.getD j default).key ≠ k) (ha : (l.getD n default).key = k) : atE l k = n := by
  unfold atE
  have e : List.range l.length = List.range n ++ (List.range (l.length - n)).map (n + ·) := by
    rw [← List.range_add]; congr 1; omega
  have h1 : (List.range n).find? (fun i => decide ((l.getD i default).key = k)) = none := by
    rw [List.find?_eq_none]
    intro x hx
    rw [List.mem_range] at hx
    simpa using h x hx
  obtain ⟨m, hm⟩ : ∃ m, l.length - n = m + 1 := ⟨l.length - n - 1, by omega⟩
  rw [e, List.find?_append, h1, hm, List.range_succ_eq_map]
  have ha2 : decide ((l.getD n default).key = k) = true := by simpa using ha
  simp only [List.map_cons, Nat.add_zero, List.find?_cons, ha2, Option.none_or]
theorem atE_none {l : List Entry} {k : Str} (h : ∀ j, j < l.length → (l.getD j default).key ≠ k) : atE l k = -1 := by
  unfold atE
  have h1 : (List.range l.length).find? (fun i => decide ((l.getD i default).key = k)) = none := by
    rw [List.find?_eq_none]
    intro x hx
    rw [List.mem_range] at hx
    simpa using h x hx
  rw [h1]
theorem atE_up {l : List Entry} {k : Str} (h : Up l) : atE l k = if thereE l k then (placeE l k : Int) else -1 := by
  cases ht : thereE l k with
  | true =>
    have hlt := placeE_lt ht
    have hz : l[placeE l k]? = some l[placeE l k] := by simp [hlt]
    have he := thereE_at hz
    rw [ht] at he
    have he : l[placeE l k].key = k := by simpa using he.symm
    rw [if_pos rfl]
    refine atE_some hlt (fun j hj => ?_) (by simp [List.getD, hlt, he])
    have hjl : j < l.length := by omega
    have hm : l[j] ∈ l.take (placeE l k) := by
      rw [List.mem_take_iff_getElem]
      exact ⟨j, by omega, rfl⟩
    have := before hm
    intro q
    simp only [List.getD, hjl, List.getElem?_eq_getElem, Option.getD_some] at q
    rw [q, lt_irrefl] at this; cases this
  | false =>
    rw [if_neg (by simp)]
    refine atE_none fun j hj q => ?_
    have hx : l[j]? = some l[j] := by simp [hj]
    have := there_own h hx
    simp only [List.getD, hj, List.getElem?_eq_getElem, Option.getD_some] at q
    rw [q, ht] at this; cases this
theorem le_iff {l : List Entry} {k : Str} {i : Nat} {x : Entry} (hu : Up l) (hx : l[i]? = some x) : lt k x.key = false ↔ i < placeE l k + if thereE l k then 1 else 0 := by
  obtain ⟨hi, he⟩ := List.getElem?_eq_some_iff.1 hx
  constructor
  · intro h
    rcases Nat.lt_or_ge i (placeE l k) with q | q
    · omega
    · cases ht : thereE l k with
      | false =>
        have hm : x ∈ l.drop (placeE l k) := by
          rw [List.mem_iff_getElem?]
          refine ⟨i - placeE l k, ?_⟩
          rw [List.getElem?_drop, show placeE l k + (i - placeE l k) = i by omega, hx]
        rw [behind hu ht hm] at h; cases h
      | true =>
        have hlt := placeE_lt ht
        have hz : l[placeE l k]? = some l[placeE l k] := by simp [hlt]
        have hzk := thereE_at hz
        rw [ht] at hzk
        have hzk : l[placeE l k].key = k := by simpa using hzk.symm
        rcases Nat.eq_or_lt_of_le q with z | z
        · simp; omega
        · have := (List.pairwise_iff_getElem.1 hu) (placeE l k) i hlt hi z
          rw [hzk, he, h] at this; cases this
  · intro h
    rcases Nat.lt_or_ge i (placeE l k) with q | q
    · have hm : x ∈ l.take (placeE l k) := by
        rw [List.mem_take_iff_getElem]
        exact ⟨i, by omega, he⟩
      exact lt_asymm (before hm)
    · cases ht : thereE l k with
      | false => rw [ht] at h; simp at h; omega
      | true =>
        rw [ht] at h
        have e : i = placeE l k := by simp at h; omega
        have := thereE_at (k := k) (l := l) (x := x) (by rw [← e]; exact hx)
        rw [ht] at this
        have : x.key = k := by simpa using this.symm
        rw [this]; exact lt_irrefl k
theorem childI_le {l : List Entry} {k : Str} : placeE l k + (if thereE l k then 1 else 0) ≤ l.length := by
  cases ht : thereE l k with
  | true => have := placeE_lt ht; simp; omega
  | false => have := placeE_le l k; simpa using this
def encRC (x : Option Entry) : DV := match x with | some e => .tup [.agg (ee e), I 0] | none => .tup [.agg (ee noEntry), I 2]
end Go.Proofs.YtbeafnkcimfeeaaGreatDoor.AM.TT
/- Models (11): the plain folding of an inner page's chain, step by step. -/
namespace Go.Proofs.YtbeafnkcimfeeaaGreatDoor.AM.TT
set_option linter.unusedVariables false
set_option linter.unusedSimpArgs false
open Go Go.Proofs.YtbeafnkcimfeeaaGreatDoor.AM
set_option linter.unusedSimpArgs false
set_option linter.unusedVariables false
def refI (v : IView) (r : Rec) : IView × Bool :=
  if r.kind = 8 then ({ v with ents := v.ents.take (placeE v.ents r.key) ++ ⟨r.key, r.page⟩ :: v.ents.drop (placeE v.ents r.key) }, !thereE v.ents r.key && hasI v r.key)
  else if r.kind = 9 then ({ v with ents := v.ents.take (if thereE v.ents r.key then placeE v.ents r.key else 0), high := r.key, unb := false, right := r.page }, thereE v.ents r.key && !decide (placeE v.ents r.key = 0))
  else if r.kind = 10 then ({ v with held := true, hold := r.hold }, thereE v.ents r.hold.key && !decide (placeE v.ents r.hold.key = 0) && decide ((v.ents.getD (placeE v.ents r.hold.key) default).page = r.hold.page) && decide ((v.ents.getD (placeE v.ents r.hold.key - 1) default).page = r.hold.left))
  else ({ v with ents := v.ents.take (placeE v.ents v.hold.key) ++ v.ents.drop (placeE v.ents v.hold.key + 1), held := false, hold := noHold }, true)
theorem upI_bad {v : IView} {r : Rec} (h : r.kind = 7 ∨ (v.held = true ∧ r.kind ≠ 11) ∨ (v.held = false ∧ r.kind = 11)) : (upI v r).2 = false := by
  unfold upI
  rcases h with h | ⟨h, h2⟩ | ⟨h, h2⟩
  · rw [if_neg (by omega), if_neg (by omega), if_neg (by omega), if_neg (by omega)]
  · rw [if_neg (by simp [h]), if_neg (by simp [h]), if_neg (by simp [h]), if_neg (by omega)]
  · rw [if_neg (by omega), if_neg (by omega), if_neg (by omega), if_neg (by simp [h])]
theorem refI_upI {v : IView} {r : Rec} (hk : (v.held = false ∧ (r.kind = 8 ∨ r.kind = 9 ∨ r.kind = 10)) ∨ (v.held = true ∧ r.kind = 11)) :
    (upI v r).2 = (refI v r).2 ∧ ((refI v r).2 = true → (upI v r).1 = (refI v r).1) := by
  rcases hk with ⟨hh, h | h | h⟩ | ⟨hh, h⟩
  · unfold refI
    rw [if_pos h]
    unfold upI
    rw [if_pos ⟨h, hh⟩]
    cases q1 : thereE v.ents r.key <;> cases q2 : hasI v r.key <;> simp
  · unfold refI
    rw [if_neg (by omega), if_pos h]
    unfold upI
    rw [if_neg (by omega), if_pos ⟨h, hh⟩]
    cases q1 : thereE v.ents r.key <;> cases q2 : decide (placeE v.ents r.key = 0) <;> simp
  · unfold refI
    rw [if_neg (by omega), if_neg (by omega), if_pos h]
    unfold upI
    rw [if_neg (by omega), if_neg (by omega), if_pos ⟨h, hh⟩]
    cases q1 : thereE v.ents r.hold.key <;> cases q2 : decide (placeE v.ents r.hold.key = 0) <;> cases q3 : decide ((v.ents.getD (placeE v.ents r.hold.key) default).page = r.hold.page) <;> cases q4 : decide ((v.ents.getD (placeE v.ents r.hold.key - 1) default).page = r.hold.left) <;> simp
  · unfold refI
    rw [if_neg (by omega), if_neg (by omega), if_neg (by omega)]
    unfold upI
    rw [if_neg (by omega), if_neg (by omega), if_neg (by omega), if_pos ⟨h, hh⟩]
    simp
def InvI (l : List Rec) (x : Nat × IView × Bool) : Prop :=
  x.1 ≤ l.length - 1 ∧ (x.2.2 = true → Up x.2.1.ents ∧ heldOk x.2.1 ∧ x.2.1.ents.length + szI l x.1 ≤ 900000 ∧ foldI l = (match goUpI l x.1 x.2.1 with | some w => .ok w | none => .error 10)) ∧ (x.2.2 = false → foldI l = .error 10)
theorem refStepI {l : List Rec} {k : Nat} {v : IView} {X : Rec} (hX : l[k]? = some X) (hI : InvI l (k + 1, v, true))
    (hk : (v.held = false ∧ (X.kind = 8 ∨ X.kind = 9 ∨ X.kind = 10)) ∨ (v.held = true ∧ X.kind = 11)) : InvI l (k, (refI v X).1, (refI v X).2) := by
  obtain ⟨h1, h2, _⟩ := hI
  obtain ⟨hs, hh, hb, hf⟩ := h2 rfl
  dsimp only at h1 hs hh hb hf
  obtain ⟨e1, e2⟩ := refI_upI (r := X) hk
  have hx' : l.getD k default = X := by simp [List.getD, hX]
  rw [goUpI, hx'] at hf
  have hz := szI_succ hX
  have hlen := upI_len v X
  refine ⟨by dsimp only; omega, fun q => ?_, fun q => ?_⟩
  · dsimp only at q ⊢
    have g1 := e2 q
    rw [e1, q, if_pos rfl, g1] at hf
    rw [g1] at hlen
    exact ⟨g1 ▸ upI_up hs, g1 ▸ upI_held hh, by omega, hf⟩
  · dsimp only at q
    rw [e1, q] at hf
    simpa using hf
theorem badStepI {l : List Rec} {k : Nat} {v : IView} {X : Rec} (hX : l[k]? = some X) (hI : InvI l (k + 1, v, true))
    (hk : X.kind = 7 ∨ (v.held = true ∧ X.kind ≠ 11) ∨ (v.held = false ∧ X.kind = 11)) : foldI l = .error 10 := by
  obtain ⟨h1, h2, _⟩ := hI
  obtain ⟨hs, hh, hb, hf⟩ := h2 rfl
  dsimp only at hf
  have hx' : l.getD k default = X := by simp [List.getD, hX]
  rw [goUpI, hx', upI_bad hk] at hf
  simpa using hf
theorem invI_base {l : List Rec} {b : Rec} {ok : Bool} (hall : ∀ j, j < l.length → kindI (l.getD j default) = true) (hb : l[l.length - 1]? = some b) (hok : (decide (b.kind = 7) && soundI (baseI b)) = ok) (hs : szI l l.length ≤ 900000) : InvI l (l.length - 1, baseI b, ok) := by
  have hf := foldI_all hall hb
  have hlt := (List.getElem?_eq_some_iff.1 hb).1
  have hz := szI_succ hb
  have e2 : l.length - 1 + 1 = l.length := by omega
  rw [e2] at hz
  refine ⟨Nat.le_refl _, fun q => ?_, fun q => ?_⟩
  · dsimp only at q ⊢
    subst q
    simp only [Bool.and_eq_true, decide_eq_true_eq] at hok
    rw [if_pos hok.1, hok.2, if_pos rfl] at hf
    have h3 := hok.2
    simp only [soundI, Bool.and_eq_true] at h3
    exact ⟨Up_rising h3.2, fun z => by simp [baseI] at z, by simp only [baseI]; omega, hf⟩
  · dsimp only at q
    subst q
    rw [hf]
    split
    · rename_i h1
      split
      · rename_i h2
        rw [h2] at hok
        simp [h1] at hok
      · rfl
    · rfl
end Go.Proofs.YtbeafnkcimfeeaaGreatDoor.AM.TT
/- Models (12): pages of the plain definitions. -/
namespace Go.Proofs.YtbeafnkcimfeeaaGreatDoor.AM.TT
set_option linter.unusedVariables false
set_option linter.unusedSimpArgs false
open Go Go.Proofs.YtbeafnkcimfeeaaGreatDoor.AM
set_option linter.unusedSimpArgs false
set_option linter.unusedVariables false
theorem ofP_leaf {n : Int} {h : Ref} {l : List Rec} {rf : List Ref} {b : Rec} (hb : l[l.length - 1]? = some b) (h1 : b.kind = 1) : ofP n h l rf = match foldL l with | .ok w => .ok ⟨n, h, l, rf, true, w, noIView⟩ | .error c => .error c := by
  unfold ofP
  simp only [hb, h1, decide_true, if_true]
  cases foldL l <;> rfl
theorem ofP_inner {n : Int} {h : Ref} {l : List Rec} {rf : List Ref} (hb : ∀ b, l[l.length - 1]? = some b → b.kind ≠ 1) : ofP n h l rf = match foldI l with | .ok w => .ok ⟨n, h, l, rf, false, noView, w⟩ | .error c => .error c := by
  unfold ofP
  cases hx : l[l.length - 1]? with
  | none => simp only; cases foldI l <;> rfl
  | some b =>
    have := hb b hx
    simp only [this, decide_false]
    cases foldI l <;> rfl
theorem foldI_code {l : List Rec} {c : Int} (h : foldI l = .error c) : c = 9 ∨ c = 10 := by
  unfold foldI at h
  split at h
  · split at h
    · split at h
      · split at h
        · split at h
          · cases h
          · simp at h; omega
        · simp at h; omega
      · simp at h; omega
    · simp at h; omega
  · simp at h; omega
theorem foldL_code {l : List Rec} {c : Int} (h : foldL l = .error c) : c = 9 ∨ c = 10 := by
  unfold foldL at h
  split at h
  · split at h
    · split at h
      · split at h
        · split at h
          · cases h
          · simp at h; omega
        · simp at h; omega
      · simp at h; omega
    · simp at h; omega
  · simp at h; omega
theorem childI_some {v : IView} {k : Str} (hh : headOk v) (hu : Up v.ents) (hk : hasI v k = true) : ∃ e, childI v k = some e := by
  obtain ⟨x, r, hx, hlow⟩ := hh
  have h0 : v.ents[0]? = some x := by rw [hx]; rfl
  have hlo : lt k x.key = false := by
    simp only [hasI, inS, Bool.and_eq_true, Bool.not_eq_true'] at hk
    rw [hlow]; exact hk.1
  have h1 := (le_iff (k := k) hu h0).1 hlo
  have h2 := childI_le (l := v.ents) (k := k)
  have hlt : placeE v.ents k + (if thereE v.ents k then 1 else 0) - 1 < v.ents.length := by omega
  refine ⟨v.ents[placeE v.ents k + (if thereE v.ents k then 1 else 0) - 1], ?_⟩
  unfold childI
  have hne : decide (placeE v.ents k + (if thereE v.ents k then 1 else 0) = 0) = false := by simp only [decide_eq_false_iff_not]; omega
  simp only [hk, hne]
  simp [hlt]
end Go.Proofs.YtbeafnkcimfeeaaGreatDoor.AM.TT
