/- Models (5): entries in rising order; what a plan says. -/
import Derived.Test.YtehhgamkijkjgaaPfMod4
namespace Go.Proofs.Ytehhgamkijkjgaa.AM.TT
open Go Go.Proofs.Ytehhgamkijkjgaa.AM
set_option linter.unusedSimpArgs false
set_option linter.unusedVariables false
theorem strLt_lt : ∀ a b : Str, strLt a b = lt a b
  | a, [] => by cases a <;> simp [strLt, Op.bytesLess, lt]
  | [], b :: s => by simp [strLt, Op.bytesLess, lt]
  | a :: r, b :: s => by
    have h := strLt_lt r s
    unfold strLt at h
    unfold strLt
    rw [Op.bytesLess, lt, h]
    by_cases e : a = b
    · subst e
      simp
    · simp [e]
def Up (l : List Entry) : Prop := l.Pairwise fun a b => lt a.key b.key = true
theorem Up_rising {v : IView} (h : risingI v = true) : Up v.ents := by
  rw [risingI_iff] at h
  unfold Up
  rw [List.pairwise_iff_getElem]
  have key : ∀ (d i : Nat) (hi : i < v.ents.length) (hj : i + d + 1 < v.ents.length), lt v.ents[i].key v.ents[i + d + 1].key = true := by
    intro d
    induction d with
    | zero =>
      intro i hi hj
      have := (h (i + 1) hj).2 (by omega)
      simpa [List.getD, hi, hj] using this
    | succ d ih =>
      intro i hi hj
      have h1 := ih i hi (by omega)
      have h2 := (h (i + (d + 1) + 1) hj).2 (by omega)
      have h3 : lt v.ents[i + d + 1].key v.ents[i + (d + 1) + 1].key = true := by
        have e1 : i + (d + 1) + 1 - 1 = i + d + 1 := by omega
        rw [e1] at h2
        simpa [List.getD, hj, show i + d + 1 < v.ents.length by omega] using h2
      exact lt_trans h1 h3
  intro i j hi hj hij
  have := key (j - i - 1) i hi (by omega)
  have e : i + (j - i - 1) + 1 = j := by omega
  simpa only [e] using this
theorem Up_take {l : List Entry} (h : Up l) (n : Nat) : Up (l.take n) := List.Pairwise.sublist (List.take_sublist n l) h
theorem Up_drop {l : List Entry} (h : Up l) (n : Nat) : Up (l.drop n) := List.Pairwise.sublist (List.drop_sublist n l) h
theorem Up_across {l : List Entry} (h : Up l) (n : Nat) : ∀ x ∈ l.take n, ∀ y ∈ l.drop n, lt x.key y.key = true := by
  have e := List.take_append_drop n l
  unfold Up at h
  rw [← e, List.pairwise_append] at h
  exact h.2.2
theorem before {l : List Entry} {k : Str} {x : Entry} (hx : x ∈ l.take (placeE l k)) : lt x.key k = true := by
  obtain ⟨i, hi⟩ := List.getElem?_of_mem hx
  have hlt := (List.getElem?_eq_some_iff.1 hi).1
  simp only [List.length_take] at hlt
  rw [List.getElem?_take] at hi
  split at hi
  · exact (placeE_at (n := i) (by omega) hi).2 (by omega)
  · cases hi
theorem behind {l : List Entry} {k : Str} (h : Up l) (ht : thereE l k = false) {y : Entry} (hy : y ∈ l.drop (placeE l k)) : lt k y.key = true := by
  cases hd : l.drop (placeE l k) with
  | nil => rw [hd] at hy; cases hy
  | cons z r =>
    have hz : l[placeE l k]? = some z := by
      have : (l.drop (placeE l k))[0]? = some z := by rw [hd]; rfl
      simpa using this
    have h1 : lt z.key k = false := by
      cases q : lt z.key k with
      | false => rfl
      | true => have := (placeE_at (Nat.le_refl _) hz).1 q; omega
    rw [thereE_at hz] at ht
    have h2 : lt k z.key = true := by
      cases q : lt k z.key with
      | true => rfl
      | false => exact absurd (lt_total h1 q) (by simpa using ht)
    rw [hd] at hy
    have hu := Up_drop h (placeE l k)
    unfold Up at hu
    rw [hd, List.pairwise_cons] at hu
    rcases List.mem_cons.1 hy with e | e
    · rw [e]; exact h2
    · exact lt_trans h2 (hu.1 y e)
theorem Up_put {l : List Entry} {e : Entry} (h : Up l) (ht : thereE l e.key = false) : Up (l.take (placeE l e.key) ++ e :: l.drop (placeE l e.key)) := by
  unfold Up
  rw [List.pairwise_append, List.pairwise_cons]
  refine ⟨Up_take h _, ⟨fun y hy => behind h ht hy, Up_drop h _⟩, fun x hx y hy => ?_⟩
  rcases List.mem_cons.1 hy with e | e
  · rw [e]; exact before hx
  · exact Up_across h _ x hx y e
theorem Up_cut {l : List Entry} (h : Up l) (n : Nat) : Up (l.take n ++ l.drop (n + 1)) := by
  refine List.Pairwise.sublist (l₂ := l) ?_ h
  conv => rhs; rw [← List.take_append_drop n l]
  refine List.Sublist.append (List.Sublist.refl _) ?_
  rw [show n + 1 = 1 + n by omega, ← List.drop_drop]
  first
    | exact List.drop_sublist _ _
    | (rw [List.drop_drop, Nat.add_comm, ← List.drop_drop]; exact List.drop_sublist _ _)
theorem upI_up {v : IView} {r : Rec} (h : Up v.ents) : Up (upI v r).1.ents := by
  unfold upI
  split
  · split
    · exact h
    · rename_i hn
      simp only [Bool.or_eq_true, not_or, Bool.not_eq_true] at hn
      exact Up_put (e := ⟨r.key, r.page⟩) h hn.1
  · split
    · split
      · exact h
      · exact Up_take h _
    · split
      · split
        · exact h
        · exact h
      · split
        · exact Up_cut h _
        · exact h
theorem goUpI_up {l : List Rec} {w : IView} : ∀ (n : Nat) (v : IView), Up v.ents → goUpI l n v = some w → Up w.ents
  | 0, v, h, e => by simp [goUpI] at e; subst e; exact h
  | n + 1, v, h, e => by
    rw [goUpI] at e
    split at e
    · exact goUpI_up n _ (upI_up h) e
    · cases e
theorem foldI_up {l : List Rec} {w : IView} (h : foldI l = .ok w) : Up w.ents := by
  unfold foldI at h
  split at h
  · split at h
    · split at h
      · split at h
        · rename_i hs
          split at h
          · rename_i w' hw
            simp at h; subst h
            simp only [soundI, Bool.and_eq_true] at hs
            exact goUpI_up _ _ (Up_rising hs.2) hw
          · cases h
        · cases h
      · cases h
    · cases h
  · cases h
theorem place_own {l : List Entry} (h : Up l) {i : Nat} {x : Entry} (hi : l[i]? = some x) : placeE l x.key = i := by
  have hlt := (List.getElem?_eq_some_iff.1 hi).1
  have hx := (List.getElem?_eq_some_iff.1 hi).2
  have key : ∀ n, n ≤ i → n ≤ placeE l x.key := by
    intro n
    induction n with
    | zero => intro _; omega
    | succ n ih =>
      intro hn
      have hnl : n < l.length := by omega
      refine (placeE_at (x := l[n]) (ih (by omega)) (by simp [hnl])).1 ?_
      have := (List.pairwise_iff_getElem.1 h) n i hnl hlt (by omega)
      rw [hx] at this
      exact this
  have h1 := key i (Nat.le_refl _)
  rcases Nat.lt_or_ge i (placeE l x.key) with q | q
  · have := (placeE_at (k := x.key) h1 hi).2 (by omega)
    rw [lt_irrefl] at this; cases this
  · omega
theorem there_own {l : List Entry} (h : Up l) {i : Nat} {x : Entry} (hi : l[i]? = some x) : thereE l x.key = true := by
  have := place_own h hi
  rw [thereE_at (x := x) (by rw [this]; exact hi)]
  simp
theorem hold4_there {v : IView} {pg : Int} {h : Hold} (hu : Up v.ents) (e : hold4 v pg = some h) : h.page = pg ∧ thereE v.ents h.key = true := by
  unfold hold4 at e
  split at e
  · rename_i i hi
    simp at e; subst e
    unfold findI at hi
    have hm := List.mem_of_find?_eq_some hi
    rw [List.mem_range] at hm
    refine ⟨rfl, ?_⟩
    have hx : v.ents[i]? = some v.ents[i] := by simp [hm]
    have := there_own hu hx
    simpa [List.getD, hm] using this
  · cases e
theorem madeA_up (c : Case) : Up (madeA c).view.ents := by
  unfold madeA
  split
  · rename_i v hv
    exact foldI_up hv
  · exact List.Pairwise.nil
/-- What a plan says. -/
theorem places {p : Page} {a : Above} {k : Str} {l : Limits} {w : Bool} {X : Plan} (hu : Up a.view.ents) (hX : decideP p a k l w = X) :
    (X.kind = 10 → p.leaf = true ∧ hasP p k = true ∧ p.rows.gone = false) ∧
    (X.kind = 1 → p.leaf = false ∧ hasP p k = true ∧ ∃ e, childI p.inner k = some e ∧ e.page = X.to) ∧
    (X.kind = 2 → X.to = rightP p ∧ unbP p = false ∧ strLt k (lowP p) = false ∧ strLt k (highP p) = false) ∧
    (X.kind = 4 → a.some = true ∧ w = true ∧ X.entry.key = highP p ∧ X.entry.page = rightP p ∧ thereE a.view.ents (highP p) = false) ∧
    (X.kind = 7 → l.rows < sizeP p ∧ p.n ≠ 0) ∧ (X.kind = 8 → l.rows < sizeP p ∧ p.n = 0) ∧
    (X.kind = 9 → p.leaf = true ∧ sizeP p = 0 ∧ X.hold.page = p.n ∧ thereE a.view.ents X.hold.key = true) ∧
    (X.kind = 6 → l.chain < p.chain.length) ∧
    (X.kind = 1 ∨ X.kind = 2 ∨ X.kind = 3 ∨ X.kind = 4 ∨ X.kind = 5 ∨ X.kind = 6 ∨ X.kind = 7 ∨ X.kind = 8 ∨ X.kind = 9 ∨ X.kind = 10) := by
  have h0 : 0 ≤ sizeP p := by unfold sizeP; omega
  subst hX
  rw [strLt_lt, strLt_lt]
  unfold decideP
  split
  · simp [plan]
  · split
    · simp
    · split
      · rename_i hn
        simp only [hasP, inS, Bool.not_eq_true', Bool.and_eq_false_imp, Bool.not_eq_true'] at hn
        unfold beyondP
        split
        · simp [plan]
        · rename_i hl
          have := hn (by simpa using hl)
          simp only [Bool.or_eq_false_iff] at this
          split
          · rename_i hb
            simp only [Bool.and_eq_true, Bool.not_eq_true'] at hb
            simp [hb.1.1.1.1, hb.1.1.1.2, hb.2]
          · simp [this.1, this.2, hl]
      · rename_i hg _ hn
        split
        · rename_i hw
          simp only [Bool.and_eq_true] at hw
          have hw2 := hw.2
          unfold upkeepP at hw2 ⊢
          split
          · rename_i q; simp [plan, q]
          · split
            · rename_i q; simp [plan, q]
            · split
              · rename_i q1 q2; simp [plan, q2]; intro q; exact q1 ⟨q2, q⟩
              · split
                · simp_all
                · rename_i q1 q2 q3 q4
                  simp only [Bool.or_eq_true, not_or, Bool.not_eq_true, Bool.not_eq_false', decide_eq_true_eq, Bool.not_eq_eq_eq_not, Bool.not_true, decide_eq_false_iff_not] at q4
                  split
                  · rename_i h hh
                    obtain ⟨g1, g2⟩ := hold4_there hu hh
                    simp [g1, g2]
                    refine ⟨by simpa using q4.1.1.1, by have := q4.1.1.2; simp at this; omega⟩
                  · rename_i hh
                    simp_all
        · split
          · rename_i hl
            simp at hn hg
            simp [plan, hl, hn, hg]
          · rename_i hl
            split
            · rename_i e he
              simp at hn hl
              simp [hl, hn, he]
            · simp [plan]
end Go.Proofs.Ytehhgamkijkjgaa.AM.TT
