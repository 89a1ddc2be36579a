/- The abstract machine (16): a table of types is checked by reckoning. -/
import Derived.Test.YtehhgamkijkjgaaAmO
namespace Go.Proofs.Ytehhgamkijkjgaa.AM
open Go.RowKit
set_option linter.unusedVariables false
set_option linter.unusedSimpArgs false
set_option linter.unusedSectionVars false

/-! ### '==' on structs, cell by cell -/

def kindsF (P : Program) (f : TypeId → Option (List EqK)) : List Field → Nat → Option (List EqK)
  | [], _ => some []
  | g :: r, off =>
    if g.name ≠ "_" ∧ g.offset = off then
      match f g.type with
      | some ks => if (P.info? g.type).map (·.size) = some ks.length then (match kindsF P f r (off + ks.length) with | some l => some (ks ++ l) | none => none) else none
      | none => none
    else none

def kindsOf (P : Program) : Nat → TypeId → Option (List EqK)
  | 0, _ => none
  | n + 1, t =>
    match P.underlying t with
    | some (.int k) => some [.int k]
    | some .bool => some [.bool]
    | some .string => some [.str]
    | some (.struct fs) => if P.stoodInHeld t then none else kindsF P (kindsOf P n) fs.toList 0
    | _ => none

theorem eqCells_len : ∀ {ks : List EqK} {xs ys : List DV} {b : Bool}, eqCells ks xs ys = some b → xs.length = ks.length ∧ ys.length = ks.length
  | [], [], [], _, _ => ⟨rfl, rfl⟩
  | k :: l, x :: r, y :: s, b, h => by
    cases k <;> cases x <;> cases y <;> simp [eqCells] at h
    · obtain ⟨_, h⟩ := h
      split at h <;> simp at h
      rename_i e he
      obtain ⟨h1, h2⟩ := eqCells_len he
      simp [h1, h2]
    all_goals
      split at h <;> simp at h
      rename_i e he
      obtain ⟨h1, h2⟩ := eqCells_len he
      simp [h1, h2]
  | [], _ :: _, _, _, h => by simp [eqCells] at h
  | [], [], _ :: _, _, h => by simp [eqCells] at h
  | k :: _, [], _, _, h => by cases k <;> simp [eqCells] at h
  | k :: _, x :: _, [], _, h => by cases k <;> cases x <;> simp [eqCells] at h

theorem eqCells_app : ∀ {ks l : List EqK} {xs ys : List DV} {b : Bool}, eqCells (ks ++ l) xs ys = some b →
    ∃ b1 b2, eqCells ks (xs.take ks.length) (ys.take ks.length) = some b1 ∧ eqCells l (xs.drop ks.length) (ys.drop ks.length) = some b2 ∧ b = (b1 && b2)
  | [], l, xs, ys, b, h => ⟨true, b, by simp [eqCells], by simpa using h, by simp⟩
  | k :: ks, l, xs, ys, b, h => by
    cases k <;> cases xs <;> cases ys <;> try (simp [eqCells] at h; done)
    all_goals
      rename_i x r y s
      cases x <;> cases y <;> simp [eqCells] at h
    · obtain ⟨hk, h⟩ := h
      split at h <;> simp at h
      rename_i e he
      obtain ⟨b1, b2, h1, h2, rfl⟩ := eqCells_app he
      exact ⟨_, b2, (by simp only [List.length_cons, List.take_succ_cons, eqCells, h1, if_pos hk]; rfl), by simpa using h2, by rw [← h, Bool.and_assoc]⟩
    all_goals
      split at h <;> simp at h
      rename_i e he
      obtain ⟨b1, b2, h1, h2, rfl⟩ := eqCells_app he
      exact ⟨_, b2, (by simp only [List.length_cons, List.take_succ_cons, eqCells, h1]; rfl), by simpa using h2, by rw [← h, Bool.and_assoc]⟩

/-- Cells from a place on read as data. -/
def CellsAt (K : Known) (V : Array Value) (off : Nat) (xs : List DV) : Prop := ∀ (j : Nat) (d : DV), xs[j]? = some d → ∃ v, V[off + j]? = some v ∧ RepD K d v

theorem CellsAt.take {K : Known} {V : Array Value} {off : Nat} {xs : List DV} (h : CellsAt K V off xs) (n : Nat) : CellsAt K V off (xs.take n) := by
  intro j d hj
  simp only [List.getElem?_take] at hj
  split at hj
  · exact h j d hj
  · cases hj

theorem CellsAt.drop {K : Known} {V : Array Value} {off : Nat} {xs : List DV} (h : CellsAt K V off xs) (n : Nat) : CellsAt K V (off + n) (xs.drop n) := by
  intro j d hj
  simp only [List.getElem?_drop] at hj
  have := h (n + j) d hj
  rw [← Nat.add_assoc] at this
  exact this

theorem run_part_plain' {P : Program} {t : TypeId} {d : TypeDesc} (hu : P.underlying t = some d) (ha : isAggDesc d = false) {V : Array Value} {off : Nat} {v : Value} (hv : V[off]? = some v) (w : World) : (part t V off).run P w = .ok v w := by
  unfold part
  rw [Sem.run_bind, run_isAgg_desc hu w, ha]
  simp [hv]

theorem kinds_sound {P : Program} {K : Known} {w : World} : ∀ (n : Nat) (t : TypeId) (ks : List EqK), kindsOf P n t = some ks → ∀ (d : Nat), n ≤ d → ∀ (VX VY : Array Value) (off : Nat) (xs ys : List DV) (b : Bool), CellsAt K VX off xs → CellsAt K VY off ys → eqCells ks xs ys = some b →
    (isAggDesc ((P.underlying t).getD .invalid) = true → (P.info? t).map (·.size) = some ks.length) →
    (do let p ← part t VX off; let q ← part t VY off; Op.equalIn d t p q : Sem Bool).run P w = .ok b w
  | 0, t, ks, h => by simp [kindsOf] at h
  | n + 1, t, ks, h => by
    intro d hd VX VY off xs ys b hx hy he hsz
    obtain ⟨d, rfl⟩ : ∃ m, d = m + 1 := ⟨d - 1, by omega⟩
    unfold kindsOf at h
    split at h
    · rename_i k hu
      obtain rfl := Option.some.inj h
      obtain ⟨hl1, hl2⟩ := eqCells_len he
      match xs, ys, hl1, hl2 with
      | [x], [y], _, _ =>
        cases x <;> cases y <;> simp [eqCells] at he
        rename_i k1 a k2 b2
        obtain ⟨⟨rfl, rfl⟩, rfl⟩ := he
        obtain ⟨v1, g1, g2⟩ := hx 0 _ rfl
        obtain ⟨v2, g3, g4⟩ := hy 0 _ rfl
        rw [Nat.add_zero] at g1 g3
        rw [Sem.run_bind, run_part_plain' hu rfl g1, Result.andThen_ok, Sem.run_bind, run_part_plain' hu rfl g3, Result.andThen_ok]
        cases g2; cases g4
        rw [run_equalIn_int w d t _ _ _ _ hu]
        congr 1
    · rename_i hu
      obtain rfl := Option.some.inj h
      obtain ⟨hl1, hl2⟩ := eqCells_len he
      match xs, ys, hl1, hl2 with
      | [x], [y], _, _ =>
        cases x <;> cases y <;> simp [eqCells] at he
        subst he
        obtain ⟨v1, g1, g2⟩ := hx 0 _ rfl
        obtain ⟨v2, g3, g4⟩ := hy 0 _ rfl
        rw [Nat.add_zero] at g1 g3
        rw [Sem.run_bind, run_part_plain' hu rfl g1, Result.andThen_ok, Sem.run_bind, run_part_plain' hu rfl g3, Result.andThen_ok]
        cases g2; cases g4
        rw [run_equalIn_bool' w d t _ _ hu]
        congr 1
    · rename_i hu
      obtain rfl := Option.some.inj h
      obtain ⟨hl1, hl2⟩ := eqCells_len he
      match xs, ys, hl1, hl2 with
      | [x], [y], _, _ =>
        cases x <;> cases y <;> simp [eqCells] at he
        subst he
        obtain ⟨v1, g1, g2⟩ := hx 0 _ rfl
        obtain ⟨v2, g3, g4⟩ := hy 0 _ rfl
        rw [Nat.add_zero] at g1 g3
        rw [Sem.run_bind, run_part_plain' hu rfl g1, Result.andThen_ok, Sem.run_bind, run_part_plain' hu rfl g3, Result.andThen_ok]
        cases g2; cases g4
        rw [run_equalIn_string w d t _ _ hu, beqL]
    · rename_i fs hu
      split at h
      · cases h
      · rename_i hst
        have hst : P.stoodInHeld t = false := by simpa using hst
        have hsize := hsz (by rw [hu]; rfl)
        obtain ⟨hl1, hl2⟩ := eqCells_len he
        have hpart : ∀ (V : Array Value), (part t V off).run P w = .ok (.agg (V.extract off (off + ks.length))) w := by
          intro V
          unfold part
          rw [Sem.run_bind, run_isAgg_desc hu w]
          cases hi : P.info? t with
          | none => rw [hi] at hsize; cases hsize
          | some inf =>
            rw [hi] at hsize
            have : inf.size = ks.length := by simpa using hsize
            simp [isAggDesc, run_sizeOf_info hi, this]
        rw [Sem.run_bind, hpart, Result.andThen_ok, Sem.run_bind, hpart, Result.andThen_ok]
        have hfo : P.fieldsOf t = fs := by unfold Program.fieldsOf; rw [hu]
        rw [run_equalIn_struct w d t _ _ (by rw [hfo]; exact hu) hst, hfo]
        have hcx : CellsAt K (VX.extract off (off + ks.length)) 0 xs := by
          intro j dd hj
          obtain ⟨v, h1, h2⟩ := hx j dd hj
          have hj' : j < ks.length := by rw [← hl1]; exact (List.getElem?_eq_some_iff.1 hj).1
          have hlt := (Array.getElem?_eq_some_iff.1 h1).1
          refine ⟨v, ?_, h2⟩
          rw [Nat.zero_add, Array.getElem?_extract, if_pos (by omega)]
          exact h1
        have hcy : CellsAt K (VY.extract off (off + ks.length)) 0 ys := by
          intro j dd hj
          obtain ⟨v, h1, h2⟩ := hy j dd hj
          have hj' : j < ks.length := by rw [← hl2]; exact (List.getElem?_eq_some_iff.1 hj).1
          have hlt := (Array.getElem?_eq_some_iff.1 h1).1
          refine ⟨v, ?_, h2⟩
          rw [Nat.zero_add, Array.getElem?_extract, if_pos (by omega)]
          exact h1
        generalize VX.extract off (off + ks.length) = AX at hcx ⊢
        generalize VY.extract off (off + ks.length) = AY at hcy ⊢
        clear hpart hsize hsz hx hy hl1 hl2 hfo
        have fields : ∀ (fl : List Field) (o : Nat) (ks : List EqK) (xs ys : List DV) (b : Bool), kindsF P (kindsOf P n) fl o = some ks → CellsAt K AX o xs → CellsAt K AY o ys → eqCells ks xs ys = some b →
            (Op.eqFields d AX AY fl).run P w = .ok b w := by
          intro fl
          induction fl with
          | nil =>
            intro o ks xs ys b hk _ _ he
            simp [kindsF] at hk
            subst hk
            cases xs <;> cases ys <;> simp [eqCells] at he
            subst he
            rfl
          | cons g r ih =>
            intro o ks xs ys b hk hx hy he
            simp only [kindsF] at hk
            split at hk
            · rename_i hg
              split at hk
              · rename_i k1 hk1
                split at hk
                · rename_i hs1
                  split at hk <;> simp at hk
                  rename_i l hl
                  subst hk
                  obtain ⟨b1, b2, h1, h2, rfl⟩ := eqCells_app he
                  have hfield := kinds_sound (w := w) n g.type k1 hk1 d (by omega) AX AY o _ _ b1 (hx.take _) (hy.take _) h1 (fun _ => hs1)
                  have hrest := ih (o + k1.length) l _ _ b2 hl (hx.drop _) (hy.drop _) h2
                  unfold Op.eqFields
                  rw [if_pos hg.1, hg.2]
                  cases hp1 : (part g.type AX o).run P w with
                  | halt x w1 => rw [Sem.run_bind, hp1] at hfield; cases hfield
                  | ok p w1 =>
                    rw [Sem.run_bind, hp1, Result.andThen_ok] at hfield
                    rw [Sem.run_bind, hp1, Result.andThen_ok]
                    cases hp2 : (part g.type AY o).run P w1 with
                    | halt x w2 => rw [Sem.run_bind, hp2] at hfield; cases hfield
                    | ok q w2 =>
                      rw [Sem.run_bind, hp2, Result.andThen_ok] at hfield
                      rw [Sem.run_bind, hp2, Result.andThen_ok, Sem.run_bind, hfield, Result.andThen_ok]
                      cases b1 with
                      | false => simp
                      | true => simpa using hrest
                · cases hk
              · cases hk
            · cases hk
        exact fields fs.toList 0 ks xs ys b h hcx hcy he
    · cases h

/-- '==' on a struct type, by reckoning its kinds. -/
theorem EqOk_of {P : Program} {t : TypeId} {ks : List EqK} {n : Nat} (hg : P.eqGuardType P.depth t = false) (hn : n ≤ 10000) (hk : kindsOf P n t = some ks) (hs : (P.info? t).map (·.size) = some ks.length) (ha : isAggDesc ((P.underlying t).getD .invalid) = true) : EqOk P t ks := by
  refine ⟨hg, fun K w xs ys vx vy b he hx hy => ?_⟩
  obtain ⟨hl1, hl2⟩ := eqCells_len he
  cases hx with
  | agg _ _ hx1 hx2 hx3 =>
    cases hy with
    | agg _ _ hy1 hy2 hy3 =>
      have hcx : CellsAt K vx 0 xs := fun j d hj => ⟨_, by rw [Nat.zero_add]; exact some_of_lt undef (by rw [hx1]; exact (List.getElem?_eq_some_iff.1 hj).1), hx3 j d hj⟩
      have hcy : CellsAt K vy 0 ys := fun j d hj => ⟨_, by rw [Nat.zero_add]; exact some_of_lt undef (by rw [hy1]; exact (List.getElem?_eq_some_iff.1 hj).1), hy3 j d hj⟩
      have := kinds_sound (w := w) n t ks hk 10000 hn vx vy 0 xs ys b hcx hcy he (fun _ => hs)
      cases hu : P.underlying t with
      | none => rw [hu] at ha; cases ha
      | some dsc =>
        rw [hu] at ha
        have hpart : ∀ (V : Array Value), V.size = ks.length → (part t V 0).run P w = .ok (.agg V) w := by
          intro V hV
          unfold part
          rw [Sem.run_bind, run_isAgg_desc hu w]
          cases hi : P.info? t with
          | none => rw [hi] at hs; cases hs
          | some inf =>
            rw [hi] at hs
            have : inf.size = ks.length := by simpa using hs
            have ha' : isAggDesc dsc = true := ha
            simp [ha', run_sizeOf_info hi, this, ← hV]
        rw [Sem.run_bind, hpart vx (by rw [hx1, hl1]), Result.andThen_ok, Sem.run_bind, hpart vy (by rw [hy1, hl2]), Result.andThen_ok] at this
        exact this

/-! ### The table's check -/

def zeroB : DV → Value → Bool
  | .int k n, .int k' n' => decide (k = k' ∧ n = n')
  | .bool b, .bool b' => b == b'
  | .str [], .string s => s.data.toList.isEmpty
  | .nil _, .slice none 0 0 => true
  | .nilI, .nilIface => true
  | .raw (.pointer none), .pointer none => true
  | .raw (.map none), .map none => true
  | .raw .nilFunc, .nilFunc => true
  | _, _ => false

theorem zeroB_sound {d : DV} {v : Value} (h : zeroB d v = true) : v.oneCell' = true ∧ ∀ K, RepD K d v := by
  unfold zeroB at h
  split at h
  · obtain ⟨rfl, rfl⟩ := of_decide_eq_true h; exact ⟨rfl, fun K => .int _ _⟩
  · simp at h; subst h; exact ⟨rfl, fun K => .bool _⟩
  · rename_i s
    have : s = ⟨([] : List UInt8).toArray⟩ := by
      obtain ⟨⟨l⟩⟩ := s
      simp at h
      rw [h]
    rw [this]
    exact ⟨rfl, fun K => .str [] (by simp)⟩
  · exact ⟨rfl, fun K => .nil _⟩
  · exact ⟨rfl, fun K => .nilI⟩
  · exact ⟨rfl, fun K => .raw _⟩
  · exact ⟨rfl, fun K => .raw _⟩
  · exact ⟨rfl, fun K => .raw _⟩
  · cases h

def zeroLB : List DV → List Value → Bool
  | [], [] => true
  | d :: r, v :: s => zeroB d v && zeroLB r s
  | _, _ => false

theorem zeroLB_sound : ∀ {l : List DV} {vs : List Value}, zeroLB l vs = true → l.length = vs.length ∧ ∀ (j : Nat) (d : DV), l[j]? = some d → ∃ v, vs[j]? = some v ∧ v.oneCell' = true ∧ ∀ K, RepD K d v
  | [], [], _ => ⟨rfl, fun j d hj => by simp at hj⟩
  | d :: r, v :: s, h => by
    simp only [zeroLB, Bool.and_eq_true] at h
    obtain ⟨h1, h2⟩ := zeroLB_sound h.2
    refine ⟨by simp [h1], fun j d' hj => ?_⟩
    cases j with
    | zero => simp at hj; subst hj; obtain ⟨g1, g2⟩ := zeroB_sound h.1; exact ⟨v, rfl, g1, g2⟩
    | succ j => simpa using h2 j d' (by simpa using hj)
  | [], _ :: _, h => by cases h
  | _ :: _, [], h => by cases h

def fieldsB (P : Program) : List (Nat × Nat × Bool) → List Field → Bool
  | [], [] => true
  | (off, sz, ag) :: r, f :: s => decide (f.offset = off) && decide (0 < sz) && (match P.info? f.type with | some inf => decide (inf.size = sz) | none => false) && (match P.underlying f.type with | some d => isAggDesc d == ag | none => false) && fieldsB P r s
  | _, _ => false

theorem fieldsB_sound {P : Program} : ∀ {l : List (Nat × Nat × Bool)} {fs : List Field}, fieldsB P l fs = true → l.length = fs.length ∧ ∀ (k : Nat) (off sz : Nat) (ag : Bool), l[k]? = some (off, sz, ag) →
      ∃ f, fs[k]? = some f ∧ f.offset = off ∧ 0 < sz ∧ (∃ inf, P.info? f.type = some inf ∧ inf.size = sz) ∧ ∃ df, P.underlying f.type = some df ∧ isAggDesc df = ag
  | [], [], _ => ⟨rfl, fun k off sz ag hk => by simp at hk⟩
  | (o', s', a') :: r, f :: s, h => by
    simp only [fieldsB, Bool.and_eq_true, decide_eq_true_eq] at h
    obtain ⟨⟨⟨⟨h1, h2⟩, h3⟩, h4⟩, h5⟩ := h
    obtain ⟨g1, g2⟩ := fieldsB_sound h5
    refine ⟨by simp [g1], fun k off sz ag hk => ?_⟩
    cases k with
    | zero =>
      simp at hk
      obtain ⟨rfl, rfl, rfl⟩ := hk
      refine ⟨f, rfl, h1, h2, ?_, ?_⟩
      · split at h3
        · rename_i inf hi; exact ⟨inf, hi, of_decide_eq_true h3⟩
        · cases h3
      · split at h4
        · rename_i d hd; exact ⟨d, hd, by simpa using h4⟩
        · cases h4
    | succ k => simpa using g2 k off sz ag (by simpa using hk)
  | [], _ :: _, h => by cases h
  | _ :: _, [], h => by cases h

def undB (P : Program) (i : TyI) (d : TypeDesc) : Bool :=
  match i.ty, d with
  | .int k, .int k' => decide (k' = k) && decide (i.size = 1)
  | .bool, .bool => decide (i.size = 1)
  | .str, .string => decide (i.size = 1)
  | .slice e sz bytes, .slice e' => decide (e' = e) && decide (i.size = 1) && decide (0 < sz) &&
    (match P.info? e with | some ie => decide (ie.size = sz) && decide (ie.bytes = bytes) && (match ie.zero with | some z => decide (z.cells.size = sz) | none => false) | none => false)
  | .struct fs, .struct fields => fieldsB P fs fields.toList
  | .iface, .interface _ => decide (i.size = 1)
  | .other, d => !isAggDesc d && decide (i.size = 1)
  | _, _ => false

theorem undB_sound {P : Program} {i : TyI} {d : TypeDesc} (h : undB P i d = true) : UndOk P i d := by
  unfold undB at h
  unfold UndOk
  split at h
  · rename_i hi; rw [hi]; simp at h; exact ⟨by rw [h.1], h.2⟩
  · rename_i hi; rw [hi]; simp at h; exact ⟨rfl, h⟩
  · rename_i hi; rw [hi]; simp at h; exact ⟨rfl, h⟩
  · rename_i e sz bytes e' hi
    rw [hi]
    simp only [Bool.and_eq_true, decide_eq_true_eq] at h
    obtain ⟨⟨⟨h1, h2⟩, h3⟩, h4⟩ := h
    refine ⟨by rw [h1], h2, h3, ?_⟩
    split at h4
    · rename_i ie hie
      simp only [Bool.and_eq_true, decide_eq_true_eq] at h4
      obtain ⟨⟨h5, h6⟩, h7⟩ := h4
      split at h7
      · rename_i z hz; exact ⟨ie, z, hie, h5, h6, hz, of_decide_eq_true h7⟩
      · cases h7
    · cases h4
  · rename_i fs fields hi
    rw [hi]
    obtain ⟨h1, h2⟩ := fieldsB_sound h
    exact ⟨fields, rfl, by simpa using h1, fun k off sz ag hk => by simpa using h2 k off sz ag hk⟩
  · rename_i hi; rw [hi]; exact ⟨⟨_, rfl⟩, of_decide_eq_true h⟩
  · rename_i hi; rw [hi]; simp at h; exact h
  · cases h

def goodB (P : Program) (t : TypeId) (i : TyI) : Bool :=
  (match P.info? t with
   | some inf => decide (inf.size = i.size) && decide (i.zero.length = i.size) &&
     (match inf.zero with | some z => zeroLB i.zero z.cells.toList && (match z with | .tuple _ => false | .agg _ => true | _ => !i.isAgg) | none => false)
   | none => false) &&
  (match P.underlying t with | some d => undB P i d | none => false) &&
  (i.eqf.isEmpty || (!P.eqGuardType P.depth t && (match kindsOf P 9 t with | some ks => decide (ks.length = i.eqf.length) && (ks.zip i.eqf).all (fun (a, b) => match a, b with | .int k, .int k' => decide (k = k') | .bool, .bool => true | .str, .str => true | _, _ => false) | none => false) && decide ((P.info? t).map (·.size) = some i.eqf.length) && isAggDesc ((P.underlying t).getD .invalid)))

theorem eqks : ∀ {ks l : List EqK}, ks.length = l.length → (ks.zip l).all (fun (a, b) => match a, b with | .int k, .int k' => decide (k = k') | .bool, .bool => true | .str, .str => true | _, _ => false) = true → ks = l
  | [], [], _, _ => rfl
  | a :: r, b :: s, hl, h => by
    simp only [List.zip_cons_cons, List.all_cons, Bool.and_eq_true] at h
    have := eqks (ks := r) (l := s) (by simpa using hl) h.2
    subst this
    cases a <;> cases b <;> first | rfl | (simp at h; done) | (simp at h; rw [h.1])
  | [], _ :: _, hl, _ => by simp at hl
  | _ :: _, [], hl, _ => by simp at hl

theorem goodB_sound {P : Program} {t : TypeId} {i : TyI} (h : goodB P t i = true) : i.Good P t := by
  unfold goodB at h
  simp only [Bool.and_eq_true, Bool.or_eq_true] at h
  obtain ⟨⟨h1, h2⟩, h3⟩ := h
  refine ⟨?_, ?_, fun he => ?_⟩
  · split at h1
    · rename_i inf hi
      simp only [Bool.and_eq_true, decide_eq_true_eq] at h1
      obtain ⟨⟨g1, g2⟩, g3⟩ := h1
      split at g3
      · rename_i z hz
        simp only [Bool.and_eq_true] at g3
        obtain ⟨k1, k2⟩ := zeroLB_sound g3.1
        refine ⟨inf, z, hi, g1, hz, by simpa [g2] using k1.symm, g2, fun j d hj => ?_, fun ha => ?_, fun ts ht => ?_⟩
        · obtain ⟨v, k3, k4, k5⟩ := k2 j d hj
          rw [getD_of_some (by simpa using k3)]
          exact ⟨k4, k5⟩
        · have := g3.2
          cases z <;> simp [ha] at this
          exact ⟨_, rfl⟩
        · have := g3.2
          rw [ht] at this; cases this
      · cases g3
    · cases h1
  · split at h2
    · rename_i d hd; exact ⟨d, hd, undB_sound h2⟩
    · cases h2
  · rcases h3 with h3 | h3
    · rw [he] at h3; cases h3
    · obtain ⟨⟨⟨g1, g2⟩, g3⟩, g4⟩ := h3
      split at g2
      · rename_i ks hk
        simp only [Bool.and_eq_true, decide_eq_true_eq] at g2
        obtain rfl := eqks g2.1 g2.2
        exact EqOk_of (n := 9) (by simpa using g1) (by omega) hk (of_decide_eq_true g3) g4
      · cases g2

/-- A table as a list. -/
def tabOf (l : List (TypeId × TyI)) : Tab := fun t => match l with
  | [] => none
  | (k, i) :: r => if t = k then some i else tabOf r t

theorem tabOf_good {P : Program} : ∀ {l : List (TypeId × TyI)}, (∀ p ∈ l, goodB P p.1 p.2 = true) → ∀ t i, tabOf l t = some i → i.Good P t
  | [], _, t, i, h => by simp [tabOf] at h
  | (k, j) :: r, hl, t, i, h => by
    unfold tabOf at h
    split at h
    · rename_i q
      subst q
      obtain rfl := Option.some.inj h
      exact goodB_sound (hl (t, j) (by simp))
    · exact tabOf_good (fun p hp => hl p (by simp [hp])) t i h

theorem all_good {P : Program} {l : List (TypeId × TyI)} (h : (l.all fun p => goodB P p.1 p.2) = true) : ∀ p ∈ l, goodB P p.1 p.2 = true := by
  simpa [List.all_eq_true] using h

/-- A function that has a Go body of its own is entered. -/
theorem EnterOk_of {P : Program} {g : FuncId} {fn : Func} (hf : P.funcs[g]? = some fn) (hn : (fn.name == "runtime.NumGoroutine") = false) (hb : fn.body.isNone = false) : EnterOk P g := by
  intro args w
  have hn' : fn.name ≠ "runtime.NumGoroutine" := by simpa using hn
  have hb' : fn.body ≠ none := by intro h; rw [h] at hb; cases hb
  simp [callFunc, hf, hn', hb']

end Go.Proofs.Ytehhgamkijkjgaa.AM
