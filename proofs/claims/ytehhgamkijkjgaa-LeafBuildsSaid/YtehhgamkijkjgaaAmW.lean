/- The abstract machine (21): arguments are read as data. -/
import Derived.Test.YtehhgamkijkjgaaAmV
import Derived.ChangeArms
import Derived.ChangeOld
import Derived.ChangeShapes
namespace Go.Proofs.Ytehhgamkijkjgaa.AM
open Go.RowKit
set_option linter.unusedVariables false

/-- All cells of a world are known. -/
def allK (w : World) : Known := fun b o => w.cell? ⟨b, o, none⟩

/-- Data by its type. -/
inductive Shp (P : Program) : TypeId → List DV → Prop where
  | int {t : TypeId} {k : IntKind} {n : Int} (h : P.underlying t = some (.int k)) (hw : (Lit.int k n).wf = true) : Shp P t [.int k n]
  | bool {t : TypeId} {b : Bool} (h : P.underlying t = some .bool) : Shp P t [.bool b]
  | str {t : TypeId} {s : List UInt8} (h : P.underlying t = some .string) (hl : s.length ≤ maxLen) : Shp P t [.str s]
  | row {t e : TypeId} {es : List (List DV)} (h : P.underlying t = some (.slice e)) (hs : ∀ r ∈ es, Shp P e r) (hl : ∀ r ∈ es, r.length = P.cellsOf e) : Shp P t [.lst (P.cellsOf e) es]
  | agg {t : TypeId} {fs : Array Field} {dss : List (List DV)} (h : P.underlying t = some (.struct fs)) (hl : dss.length = fs.size) (hs : ∀ (i : Nat) (f : Field) (ds : List DV), fs[i]? = some f → dss[i]? = some ds → Shp P f.type ds) : Shp P t dss.flatten

def flatB (P : Program) : List Field → Nat → Nat → Bool
  | [], off, n => off == n
  | f :: r, off, n => f.offset == off && flatB P r (off + P.cellsOf f.type) n

/-- Types that are read through. -/
def closedB (P : Program) (l : List TypeId) : Bool := l.all fun t => match P.underlying t with
  | some (.int _) => true
  | some .bool => true
  | some .string => true
  | some (.slice e) => l.contains e && decide (0 < P.cellsOf e)
  | some (.struct fs) => fs.toList.all (fun f => l.contains f.type) && flatB P fs.toList 0 (P.cellsOf t)
  | _ => false

def ReadsAs (K : Known) (ds : List DV) (cs : List Value) : Prop := ds.length = cs.length ∧ ∀ (j : Nat) (d : DV), ds[j]? = some d → ∃ v, cs[j]? = some v ∧ v.oneCell' = true ∧ RepD K d v

theorem flat_reads {P : Program} {K : Known} {cs : List Value} : ∀ (fs : List Field) (off n : Nat) (dss : List (List DV)), flatB P fs off n = true → cs.length = n → dss.length = fs.length →
    (∀ (i : Nat) (f : Field) (ds : List DV), fs[i]? = some f → dss[i]? = some ds → ReadsAs K ds ((cs.drop f.offset).take (P.cellsOf f.type)) ∧ ds.length = P.cellsOf f.type) →
    off ≤ n ∧ ReadsAs K dss.flatten (cs.drop off)
  | [], off, n, [], h, hc, _, _ => by
    simp [flatB] at h
    subst h
    refine ⟨Nat.le_refl _, ?_, fun j d hj => by simp at hj⟩
    simp [hc]
  | f :: r, off, n, ds :: dr, h, hc, hl, hf => by
    simp only [flatB, Bool.and_eq_true, beq_iff_eq] at h
    obtain ⟨h1, h2⟩ := h
    obtain ⟨h3, h4⟩ := hf 0 f ds rfl rfl
    obtain ⟨h5, h6⟩ := flat_reads r (off + P.cellsOf f.type) n dr h2 hc (by simpa using hl) (fun i g es hg he => hf (i + 1) g es (by simpa using hg) (by simpa using he))
    refine ⟨by omega, ?_, fun j d hj => ?_⟩
    · have := h6.1
      simp only [List.flatten_cons, List.length_append, List.length_drop] at this ⊢
      omega
    · simp only [List.flatten_cons] at hj
      rw [List.getElem?_append] at hj
      split at hj
      · rename_i hlt
        obtain ⟨v, g1, g2⟩ := h3.2 j d hj
        rw [h1] at g1
        simp only [List.getElem?_take, List.getElem?_drop] at g1 ⊢
        split at g1
        · exact ⟨v, g1, g2⟩
        · cases g1
      · rename_i hlt
        obtain ⟨v, g1, g2⟩ := h6.2 _ d hj
        simp only [List.getElem?_drop] at g1 ⊢
        refine ⟨v, ?_, g2⟩
        rw [← g1]
        congr 1
        omega
  | [], _, _, _ :: _, _, _, hl, _ => by simp at hl
  | _ :: _, _, _, [], _, _, hl, _ => by simp at hl

theorem cells_spot {w : World} {base : Nat} {a : Addr} {n : Nat} {l : List Value} (hn : 0 < n) (h : w.cells? base a n = some l) : a.spot = none := by
  obtain ⟨_, hl, hc⟩ := World.cells?_some h
  have := hc 0 hn
  obtain ⟨b, o, sp⟩ := a
  cases sp with
  | none => rfl
  | some q =>
    exfalso
    have h0 : l[0]? = some l[0] := by simp
    rw [h0] at this
    simp only [World.cell?, Addr.add] at this
    split at this <;> simp_all

theorem cells_at {w : World} {base : Nat} {b o n : Nat} {l : List Value} (h : w.cells? base ⟨b, o, none⟩ n = some l) : l.length = n ∧ ∀ j, j < n → w.cell? ⟨b, o + j, none⟩ = l[j]? := by
  obtain ⟨_, hl, hc⟩ := World.cells?_some h
  refine ⟨hl, fun j hj => ?_⟩
  have := hc j hj
  rw [addr_add] at this
  exact this

theorem closed_at {P : Program} {l : List TypeId} (h : closedB P l = true) {t : TypeId} (ht : t ∈ l) : (match P.underlying t with
  | some (.int _) => true
  | some .bool => true
  | some .string => true
  | some (.slice e) => l.contains e && decide (0 < P.cellsOf e)
  | some (.struct fs) => fs.toList.all (fun f => l.contains f.type) && flatB P fs.toList 0 (P.cellsOf t)
  | _ => false) = true := by
  unfold closedB at h
  rw [List.all_eq_true] at h
  exact h t ht

theorem flatB_bound {P : Program} : ∀ (fs : List Field) (off n : Nat), flatB P fs off n = true → off ≤ n ∧ ∀ (i : Nat) (f : Field), fs[i]? = some f → f.offset + P.cellsOf f.type ≤ n
  | [], off, n, h => by simp [flatB] at h; subst h; exact ⟨Nat.le_refl _, fun i f hf => by simp at hf⟩
  | g :: r, off, n, h => by
    simp only [flatB, Bool.and_eq_true, beq_iff_eq] at h
    obtain ⟨h1, h2⟩ := flatB_bound r _ _ h.2
    refine ⟨by omega, fun i f hf => ?_⟩
    cases i with
    | zero => simp at hf; subst hf; omega
    | succ i => exact h2 i f (by simpa using hf)

theorem list_choice {α : Type} {R : Nat → α → Prop} : ∀ (m : Nat), (∀ i, i < m → ∃ a, R i a) → ∃ l : List α, l.length = m ∧ ∀ i a, l[i]? = some a → R i a
  | 0, _ => ⟨[], rfl, fun i a h => by simp at h⟩
  | m + 1, h => by
    obtain ⟨l, h1, h2⟩ := list_choice m (fun i hi => h i (by omega))
    obtain ⟨a, ha⟩ := h m (by omega)
    refine ⟨l ++ [a], by simp [h1], fun i b hb => ?_⟩
    rw [List.getElem?_append] at hb
    split at hb
    · exact h2 i b hb
    · rename_i hlt
      have hi : i - l.length = 0 := by
        rcases Nat.eq_zero_or_pos (i - l.length) with q | q
        · exact q
        · rw [List.getElem?_eq_none (by simp; omega)] at hb; cases hb
      rw [hi] at hb
      simp at hb
      subst hb
      have : i = m := by omega
      rw [this]; exact ha

/-- What is read of an argument is data by its type. -/
theorem read_all {H : Type} {enc : TypeId × Value → H} {P : Program} {w : World} {spare : Nat → Bool} {held : Bool} {l : List TypeId} (hcl : closedB P l = true) (hsp : ∀ b, spare b = true) :
    ∀ (n : Nat) (t : TypeId) (cs : List Value) (x : DataW H × List MemPlace), t ∈ l → DataW.trod enc P w 0 spare held n t cs = some x → ∃ ds, Shp P t ds ∧ ReadsAs (allK w) ds cs
  | 0, t, cs, x, ht, h => by simp [DataW.trod] at h
  | n + 1, t, cs, x, ht, h => by
    have hc := closed_at hcl ht
    split at hc
    · rename_i k hu
      obtain ⟨m, rfl, rfl, hw⟩ := DataW.trod_int hu h
      exact ⟨[.int k m], .int hu hw, rfl, fun j d hj => by cases j <;> simp at hj; subst hj; exact ⟨_, rfl, rfl, .int _ _⟩⟩
    · rename_i hu
      obtain ⟨b, rfl, rfl⟩ := DataW.trod_bool hu h
      exact ⟨[.bool b], .bool hu, rfl, fun j d hj => by cases j <;> simp at hj; subst hj; exact ⟨_, rfl, rfl, .bool _⟩⟩
    · rename_i hu
      obtain ⟨s, rfl, rfl, hm⟩ := DataW.trod_string hu h
      refine ⟨[.str s.data.toList], .str hu (by simpa using hm), rfl, fun j d hj => by cases j <;> simp at hj; subst hj; exact ⟨_, rfl, rfl, .str s.data.toList (by simpa using hm)⟩⟩
    · rename_i e hu
      simp only [Bool.and_eq_true, List.contains_iff_mem, decide_eq_true_eq] at hc
      rcases DataW.trod_slice hu h with ⟨rfl, rfl⟩ | ⟨a, len, cap, elems, rest, m, hm, rfl, rfl, hb, hlc, hcm, hel, hes, hrs, _⟩
      · exact ⟨[.lst (P.cellsOf e) []], .row hu (by simp) (by simp), rfl, fun j d hj => by cases j <;> simp at hj; subst hj; exact ⟨_, rfl, rfl, .nils _⟩⟩
      · obtain rfl : n = m := by omega
        obtain ⟨es, h1, h2⟩ := list_choice (R := fun i r => Shp P e r ∧ ∃ cells, w.cells? 0 (a.add (i * P.cellsOf e)) (P.cellsOf e) = some cells ∧ ReadsAs (allK w) r cells) len (fun i hi => by
          have := hes i hi
          have hxi : elems[i]? = some (elems[i]'(by omega)) := by simp [hel, hi]
          rw [hxi] at this
          obtain ⟨cells, g1, g2⟩ := Option.bind_eq_some_iff.1 this
          obtain ⟨ds, g3, g4⟩ := read_all hcl hsp n e cells _ hc.1 g2
          exact ⟨ds, g3, cells, g1, g4⟩)
        refine ⟨[.lst (P.cellsOf e) es], .row hu (fun r hr => ?_) (fun r hr => ?_), rfl, fun j d hj => ?_⟩
        · obtain ⟨i, hi⟩ := List.getElem?_of_mem hr
          exact (h2 i r hi).1
        · obtain ⟨i, hi⟩ := List.getElem?_of_mem hr
          obtain ⟨cells, g1, g2⟩ := (h2 i r hi).2
          rw [g2.1]
          exact (World.cells?_some g1).2.1
        · cases j <;> simp at hj
          subst hj
          refine ⟨_, rfl, rfl, ?_⟩
          rcases Nat.eq_zero_or_pos cap with q | q
          · have : len = 0 := by omega
            subst q this
            have : es = [] := List.eq_nil_of_length_eq_zero h1
            rw [this]
            exact .emp _ _
          · have hspot : a.spot = none := by
              rcases Nat.eq_zero_or_pos len with z | z
              · obtain ⟨r1, r2⟩ := hrs (hsp _)
                have := r2 0 (by omega)
                have hxi : rest[0]? = some (rest[0]'(by omega)) := by simp
                rw [hxi] at this
                obtain ⟨cells, g1, g2⟩ := Option.bind_eq_some_iff.1 this
                have := cells_spot hc.2 g1
                obtain ⟨b, o, sp⟩ := a
                simpa [Addr.add, z] using this
              · obtain ⟨_, cells, g1, _⟩ := h2 0 (es[0]'(by omega)) (by simp)
                have := cells_spot hc.2 g1
                obtain ⟨b, o, sp⟩ := a
                simpa [Addr.add] using this
            obtain ⟨b, o, sp⟩ := a
            simp only at hspot
            subst hspot
            rw [← h1]
            have key : ∀ (i : Nat) (r : List DV), es[i]? = some r → ∀ (j : Nat) (d : DV), r[j]? = some d → ∃ v, w.cell? ⟨b, o + i * P.cellsOf e + j, none⟩ = some v ∧ v.oneCell' = true ∧ RepD (allK w) d v := by
              intro i r hr j d hd
              obtain ⟨_, cells, g1, g2⟩ := h2 i r hr
              rw [addr_add] at g1
              obtain ⟨g3, g4⟩ := cells_at g1
              obtain ⟨v, g5, g6, g7⟩ := g2.2 j d hd
              have hj : j < P.cellsOf e := by rw [← g3]; exact (List.getElem?_eq_some_iff.1 g5).1
              exact ⟨v, by rw [g4 j hj]; exact g5, g6, g7⟩
            refine .lst _ es b o cap (fun i j => (w.cell? ⟨b, o + i * P.cellsOf e + j, none⟩).getD undef) (by omega) hcm (fun r hr => ?_) (fun i r hr j d hd => ?_) (fun i r hr j d hd => ?_) (fun i r hr j d hd => ?_)
            · obtain ⟨i, hi⟩ := List.getElem?_of_mem hr
              obtain ⟨cells, g1, g2⟩ := (h2 i r hi).2
              rw [g2.1]
              exact (World.cells?_some g1).2.1
            · obtain ⟨v, g1, g2, g3⟩ := key i r hr j d hd
              show w.cell? _ = _
              rw [g1]; rfl
            · obtain ⟨v, g1, g2, g3⟩ := key i r hr j d hd
              rw [g1]; exact g2
            · obtain ⟨v, g1, g2, g3⟩ := key i r hr j d hd
              rw [g1]; exact g3
    · rename_i fs hu
      simp only [Bool.and_eq_true, List.all_eq_true, List.contains_iff_mem] at hc
      obtain ⟨xs, m, hm, rfl, hlen, hxl, hf⟩ := DataW.trod_struct hu h
      obtain rfl : n = m := by omega
      obtain ⟨dss, h1, h2⟩ := list_choice (R := fun i ds => ∀ f, fs[i]? = some f → Shp P f.type ds ∧ ReadsAs (allK w) ds ((cs.drop f.offset).take (P.cellsOf f.type)) ∧ ((cs.drop f.offset).take (P.cellsOf f.type)).length = P.cellsOf f.type) fs.size (fun i hi => by
        have hfi : fs[i]? = some fs[i] := by simp [hi]
        have := hf i _ hfi
        have hxi : xs[i]? = some xs[i] := by simp [hxl, hi]
        rw [hxi] at this
        obtain ⟨ds, g1, g2⟩ := read_all hcl hsp n _ _ _ (hc.1 _ (by simp)) this
        refine ⟨ds, fun f hf' => ?_⟩
        rw [hfi] at hf'
        obtain rfl := Option.some.inj hf'
        exact ⟨g1, g2, by have := (flatB_bound _ _ _ hc.2).2 i _ (by rw [Array.getElem?_toList]; exact hfi); simp; omega⟩)
      obtain ⟨_, h3⟩ := flat_reads (K := allK w) (cs := cs) fs.toList 0 (P.cellsOf t) dss hc.2 hlen (by simpa using h1) (fun i f ds hf' hd => by
        obtain ⟨g1, g2, g3⟩ := h2 i ds hd f (by simpa using hf')
        exact ⟨g2, by rw [g2.1, g3]⟩)
      exact ⟨dss.flatten, .agg hu h1 (fun i f ds hf' hd => (h2 i ds hd f hf').1), by simpa using h3⟩
    · cases hc

theorem Shp.int_inv {P : Program} {t : TypeId} {k : IntKind} {ds : List DV} (h : Shp P t ds) (hu : P.underlying t = some (.int k)) : ∃ n, ds = [.int k n] ∧ (Lit.int k n).wf = true := by
  cases h with
  | int h hw => rw [hu] at h; simp at h; subst h; exact ⟨_, rfl, hw⟩
  | bool h => rw [hu] at h; simp at h
  | str h hl => rw [hu] at h; simp at h
  | row h hs hl => rw [hu] at h; simp at h
  | agg h hl hs => rw [hu] at h; simp at h

theorem Shp.bool_inv {P : Program} {t : TypeId} {ds : List DV} (h : Shp P t ds) (hu : P.underlying t = some .bool) : ∃ b, ds = [.bool b] := by
  cases h with
  | int h hw => rw [hu] at h; simp at h
  | bool h => exact ⟨_, rfl⟩
  | str h hl => rw [hu] at h; simp at h
  | row h hs hl => rw [hu] at h; simp at h
  | agg h hl hs => rw [hu] at h; simp at h

theorem Shp.str_inv {P : Program} {t : TypeId} {ds : List DV} (h : Shp P t ds) (hu : P.underlying t = some .string) : ∃ s, ds = [.str s] ∧ s.length ≤ maxLen := by
  cases h with
  | int h hw => rw [hu] at h; simp at h
  | bool h => rw [hu] at h; simp at h
  | str h hl => exact ⟨_, rfl, hl⟩
  | row h hs hl => rw [hu] at h; simp at h
  | agg h hl hs => rw [hu] at h; simp at h

theorem Shp.row_inv {P : Program} {t e : TypeId} {ds : List DV} (h : Shp P t ds) (hu : P.underlying t = some (.slice e)) : ∃ es, ds = [.lst (P.cellsOf e) es] ∧ ∀ r ∈ es, Shp P e r := by
  cases h with
  | int h hw => rw [hu] at h; simp at h
  | bool h => rw [hu] at h; simp at h
  | str h hl => rw [hu] at h; simp at h
  | row h hs hl => rw [hu] at h; simp at h; subst h; exact ⟨_, rfl, hs⟩
  | agg h hl hs => rw [hu] at h; simp at h

theorem Shp.agg_inv {P : Program} {t : TypeId} {fs : Array Field} {ds : List DV} (h : Shp P t ds) (hu : P.underlying t = some (.struct fs)) : ∃ dss : List (List DV), ds = dss.flatten ∧ dss.length = fs.size ∧ ∀ (i : Nat) (f : Field) (ds : List DV), fs[i]? = some f → dss[i]? = some ds → Shp P f.type ds := by
  cases h with
  | int h hw => rw [hu] at h; simp at h
  | bool h => rw [hu] at h; simp at h
  | str h hl => rw [hu] at h; simp at h
  | row h hs hl => rw [hu] at h; simp at h
  | agg h hl hs => rw [hu] at h; simp at h; subst h; exact ⟨_, rfl, hl, hs⟩

theorem all_map {α β : Type} {enc : α → β} : ∀ {es : List β}, (∀ r ∈ es, ∃ x, r = enc x) → ∃ l : List α, es = l.map enc
  | [], _ => ⟨[], rfl⟩
  | r :: es, h => by
    obtain ⟨x, rfl⟩ := h r (by simp)
    obtain ⟨l, rfl⟩ := all_map (es := es) (fun r hr => h r (by simp [hr]))
    exact ⟨x :: l, rfl⟩

def AllShp (P : Program) : List TypeId → List (List DV) → Prop
  | [], [] => True
  | t :: ts, d :: ds => Shp P t d ∧ AllShp P ts ds
  | _, _ => False

def fieldsT (P : Program) (t : TypeId) (ts : List TypeId) : Bool := match P.underlying t with
  | some (.struct fs) => fs.toList.map (·.type) == ts
  | _ => false

theorem AllShp_mk {P : Program} : ∀ (fs : List Field) (dss : List (List DV)), dss.length = fs.length → (∀ (i : Nat) (f : Field) (ds : List DV), fs[i]? = some f → dss[i]? = some ds → Shp P f.type ds) → AllShp P (fs.map (·.type)) dss
  | [], [], _, _ => trivial
  | f :: fs, d :: ds, hl, h => ⟨h 0 f d rfl rfl, AllShp_mk fs ds (by simpa using hl) (fun i g e hg he => h (i + 1) g e (by simpa using hg) (by simpa using he))⟩
  | [], _ :: _, hl, _ => by simp at hl
  | _ :: _, [], hl, _ => by simp at hl

theorem Shp.agg_ts {P : Program} {t : TypeId} {ts : List TypeId} {ds : List DV} (h : Shp P t ds) (hb : fieldsT P t ts = true) : ∃ dss : List (List DV), ds = dss.flatten ∧ AllShp P ts dss := by
  unfold fieldsT at hb
  split at hb
  · rename_i fs hu
    obtain ⟨dss, h1, h2, h3⟩ := h.agg_inv hu
    simp only [beq_iff_eq] at hb
    subst hb
    exact ⟨dss, h1, AllShp_mk _ _ (by simpa using h2) (fun i f ds hf hd => h3 i f ds (by simpa using hf) hd)⟩
  · cases hb

theorem AllShp.cons_inv {P : Program} {t : TypeId} {ts : List TypeId} {dss : List (List DV)} (h : AllShp P (t :: ts) dss) : ∃ d r, dss = d :: r ∧ Shp P t d ∧ AllShp P ts r := by
  cases dss with
  | nil => cases h
  | cons d r => exact ⟨d, r, rfl, h.1, h.2⟩

theorem AllShp.nil_inv {P : Program} {dss : List (List DV)} (h : AllShp P [] dss) : dss = [] := by
  cases dss with
  | nil => rfl
  | cons d r => cases h

end Go.Proofs.Ytehhgamkijkjgaa.AM
