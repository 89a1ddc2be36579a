/- Contracts of the functions and their models, by the abstract machine. -/
import Derived.Test.YtbeafnkcimfeeaaDoorPfMod20
/- Models: a chain with one record more. -/
namespace Go.Proofs.YtbeafnkcimfeeaaDoor.AM.TT
set_option linter.unusedVariables false
set_option linter.unusedSimpArgs false

theorem goUp_cons {r : Rec} {l : List Rec} : ∀ (n : Nat) (v : LView), goUp (r :: l) (n + 1) v = match goUp l n v with | some w => if (upV w r).2 then some (upV w r).1 else none | none => none
  | 0, v => by simp [goUp]
  | n + 1, v => by
    rw [goUp]
    have e : (r :: l).getD (n + 1) default = l.getD n default := by simp [List.getD]
    rw [e]
    conv => rhs; rw [goUp]
    split
    · rw [goUp_cons n]
    · rfl

theorem foldL_cons {r : Rec} {l : List Rec} {v : LView} (hk : kindL r = true) (h : foldL l = .ok v) : foldL (r :: l) = if (upV v r).2 then .ok (upV v r).1 else .error 10 := by
  unfold foldL at h ⊢
  split at h
  · rename_i ha
    rw [if_pos (by simp only [List.all_cons, hk, ha, Bool.and_self])]
    split at h
    · rename_i b hb
      have hne : l ≠ [] := by rintro rfl; simp at hb
      have hb2 : (r :: l).getLast? = some b := by rw [List.getLast?_cons, hb]; rfl
      rw [hb2]
      split at h
      · rename_i h1
        dsimp only
        rw [if_pos h1]
        split at h
        · rename_i hs
          rw [if_pos hs]
          split at h
          · rename_i w hg
            cases h
            have hl : (r :: l).length - 1 = (l.length - 1) + 1 := by
              have : 0 < l.length := List.length_pos_iff.2 hne
              simp; omega
            rw [hl, goUp_cons, hg]
            dsimp only
            split <;> rename_i q <;> (split at q <;> simp_all)
          · cases h
        · cases h
      · cases h
    · cases h
  · cases h

/-- What rows tell of a key. -/
def valOf (l : List Row) (k : Str) : Str × Bool × Int := if there l k then ((l.getD (place l k) default).val, true, 0) else ([], false, 0)

theorem valOf_mem {l : List Row} {k : Str} {x : Row} (hl : UpR l) (hx : x ∈ l) (hk : x.key = k) : valOf l k = (x.val, true, 0) := by
  obtain ⟨i, hi⟩ := List.getElem?_of_mem hx
  unfold valOf
  rw [there_hit hl hi hk, if_pos rfl, place_hit hl hi hk]
  simp [List.getD, hi]

theorem valOf_no {l : List Row} {k : Str} (h : ∀ x ∈ l, x.key ≠ k) : valOf l k = ([], false, 0) := by
  unfold valOf
  rw [there_no (fun j x hj => h x (List.mem_of_getElem? hj))]
  simp

theorem valOf_congr {l l' : List Row} {k : Str} (hl : UpR l) (hl' : UpR l') (h : ∀ x : Row, x.key = k → (x ∈ l ↔ x ∈ l')) : valOf l k = valOf l' k := by
  by_cases q : ∃ x ∈ l, x.key = k
  · obtain ⟨x, h1, h2⟩ := q
    rw [valOf_mem hl h1 h2, valOf_mem hl' ((h x h2).1 h1) h2]
  · rw [valOf_no (fun x hx hk => q ⟨x, hx, hk⟩), valOf_no (fun x hx hk => q ⟨x, (h x hk).2 hx, hk⟩)]

def searchV (v : LView) (k : Str) : Str × Bool × Int := if v.gone then ([], false, 13) else if hasV v k then (if there v.rows k then ((v.rows.getD (place v.rows k) default).val, true, 0) else ([], false, 0)) else ([], false, 2)

theorem searchV_eq {v : LView} {k : Str} (hg : v.gone = false) : searchV v k = if hasV v k then valOf v.rows k else ([], false, 2) := by
  unfold searchV valOf
  rw [hg]; rfl

theorem searchV_zero {v : LView} {k : Str} (h : (searchV v k).2.2 = 0) : v.gone = false ∧ hasV v k = true := by
  unfold searchV at h
  cases hg : v.gone with
  | true => rw [hg] at h; simp at h
  | false =>
    refine ⟨rfl, ?_⟩
    cases hh : hasV v k with
    | true => rfl
    | false => rw [hg, hh] at h; simp at h

theorem put_iff {l : List Row} {r x : Row} (hl : UpR l) (hk : x.key ≠ r.key) : x ∈ putR l r (there l r.key) ↔ x ∈ l := by
  refine ⟨fun h => (put_mem h).resolve_left (fun e => hk (by rw [e])), fun h => ?_⟩
  unfold putR
  rw [List.mem_append, List.mem_cons]
  rw [← List.take_append_drop (place l r.key) l, List.mem_append] at h
  rcases h with h | h
  · exact .inl h
  · refine .inr (.inr ?_)
    cases ht : there l r.key with
    | false => simpa using h
    | true =>
      obtain ⟨y, h1, h2⟩ := there_val ht
      have hlt := place_lt ht
      rw [List.drop_eq_getElem_cons hlt] at h
      rcases List.mem_cons.1 h with e | h
      · exfalso
        have : l[place l r.key] = y := by have := (List.getElem?_eq_some_iff.1 h1).2; exact this
        exact hk (by rw [e, this, h2])
      · simpa using h

theorem put_in {l : List Row} {r : Row} {t : Bool} : r ∈ putR l r t := by
  unfold putR
  simp

theorem drop_iff {l : List Row} {k : Str} {x : Row} (hl : UpR l) (hk : x.key ≠ k) : x ∈ dropR l k ↔ x ∈ l := by
  refine ⟨fun h => drop_sub.mem h, fun h => ?_⟩
  unfold dropR
  split
  · rename_i ht
    obtain ⟨y, h1, h2⟩ := there_val ht
    have hlt := place_lt ht
    rw [← List.take_append_drop (place l k) l, List.mem_append] at h
    rw [List.mem_append]
    rcases h with h | h
    · exact .inl h
    · refine .inr ?_
      rw [List.drop_eq_getElem_cons hlt] at h
      rcases List.mem_cons.1 h with e | h
      · exfalso
        have : l[place l k] = y := (List.getElem?_eq_some_iff.1 h1).2
        exact hk (by rw [e, this, h2])
      · exact h
  · exact h

theorem drop_no {l : List Row} {k : Str} {x : Row} (hl : UpR l) (hx : x ∈ dropR l k) : x.key ≠ k := by
  intro hk
  unfold dropR at hx
  split at hx
  · rename_i ht
    rcases List.mem_append.1 hx with h | h
    · have := beforeR h
      rw [hk, lt_irrefl] at this; cases this
    · have := behindR (y := x) hl (by rw [ht]; exact h)
      rw [hk, lt_irrefl] at this; cases this
  · rename_i ht
    obtain ⟨i, hi⟩ := List.getElem?_of_mem hx
    exact ht (there_hit hl hi hk)

theorem UpR_drop {l : List Row} {k : Str} (h : UpR l) : UpR (dropR l k) := h.sublist drop_sub

def putRec (r : Row) : Rec := { noRec with kind := 2, key := r.key, val := r.val }
def delRec (k : Str) : Rec := { noRec with kind := 3, key := k }

/-- A row that is put is found; any other key has what it had. -/
theorem law_put {l : List Rec} {v : LView} {r : Row} (hf : foldL l = .ok v) (hs : (searchV v r.key).2.2 = 0) (hr : fitsK r = true) :
    ∃ w, foldL (putRec r :: l) = .ok w ∧ searchV w r.key = (r.val, true, 0) ∧ ∀ k, k ≠ r.key → searchV w k = searchV v k := by
  obtain ⟨hg, hh⟩ := searchV_zero hs
  obtain ⟨⟨hu, _, _⟩, _⟩ := foldL_SV hf
  have e : upV v (putRec r) = ({ v with rows := putR v.rows r (there v.rows r.key) }, true) := by
    unfold upV putRec
    have : fitsK ⟨r.key, r.val⟩ = true := hr
    simp [this, hg, hh]
  refine ⟨_, by rw [foldL_cons (by rfl) hf, e]; rfl, ?_, fun k hk => ?_⟩
  · rw [searchV_eq (by exact hg)]
    have : hasV { v with rows := putR v.rows r (there v.rows r.key) } r.key = true := hh
    rw [this, if_pos rfl]
    exact valOf_mem (UpR_put hu) put_in rfl
  · rw [searchV_eq (by exact hg), searchV_eq hg]
    have : hasV { v with rows := putR v.rows r (there v.rows r.key) } k = hasV v k := rfl
    rw [this]
    split
    · exact valOf_congr (UpR_put hu) hu (fun x hx => put_iff hu (by rw [hx]; exact hk))
    · rfl

theorem law_del {l : List Rec} {v : LView} {k0 : Str} (hf : foldL l = .ok v) (hs : (searchV v k0).2.2 = 0) :
    ∃ w, foldL (delRec k0 :: l) = .ok w ∧ searchV w k0 = ([], false, 0) ∧ ∀ k, k ≠ k0 → searchV w k = searchV v k := by
  obtain ⟨hg, hh⟩ := searchV_zero hs
  obtain ⟨⟨hu, _, _⟩, _⟩ := foldL_SV hf
  have e : upV v (delRec k0) = ({ v with rows := dropR v.rows k0 }, true) := by
    unfold upV delRec
    simp [hg, hh]
  refine ⟨_, by rw [foldL_cons (by rfl) hf, e]; rfl, ?_, fun k hk => ?_⟩
  · rw [searchV_eq (by exact hg)]
    have : hasV { v with rows := dropR v.rows k0 } k0 = true := hh
    rw [this, if_pos rfl]
    exact valOf_no (fun x hx => drop_no hu hx)
  · rw [searchV_eq (by exact hg), searchV_eq hg]
    have : hasV { v with rows := dropR v.rows k0 } k = hasV v k := rfl
    rw [this]
    split
    · exact valOf_congr (UpR_drop hu) hu (fun x hx => drop_iff hu (by rw [hx]; exact hk))
    · rfl

end Go.Proofs.YtbeafnkcimfeeaaDoor.AM.TT
