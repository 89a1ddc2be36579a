/- Contracts of the functions and their models, by the abstract machine. -/
import Derived.Test.YtbeafnkcimfeeaaGreatDoorAm2
import Derived.ChangeArms
import Derived.ChangeOld
import Derived.ChangeShapes
import Derived.SizedLaws
/- The abstract machine (16): a table of types is checked by reckoning. -/
namespace Go.Proofs.YtbeafnkcimfeeaaGreatDoor.AM
set_option linter.unusedVariables false
set_option linter.unusedSimpArgs false
open Go.RowKit
set_option linter.unusedVariables false
set_option linter.unusedSimpArgs false
set_option linter.unusedSectionVars false
/-! ### '==' on structs, cell by cell -/
def kindsF (P : Program) (f : TypeId → Option (List EqK)) : List Field → Nat → Option (List EqK)
  | [], _ => some []
  | g :: r, off =>
    if g.name ≠ "_" ∧ g.offset = off then
      match f g.type with
      | some ks => if (P.info? g.type).map (·.size) = some ks.length then (match kindsF P f r (off + ks.length) with | some l => some (ks ++ l) | none => none) else none
      | none => none
    else none
def kindsOf (P : Program) : Nat → TypeId → Option (List EqK)
  | 0, _ => none
  | n + 1, t =>
    match P.underlying t with
    | some (.int k) => some [.int k]
    | some .bool => some [.bool]
    | some .string => some [.str]
    | some (.struct fs) => if P.stoodInHeld t then none else kindsF P (kindsOf P n) fs.toList 0
    | _ => none
theorem eqCells_len : ∀ {ks : List EqK} {xs ys : List DV} {b : Bool}, eqCells ks xs ys = some b → xs.length = ks.length ∧ ys.length = ks.length
  | [], [], [], _, _ => ⟨rfl, rfl⟩
  | k :: l, x :: r, y :: s, b, h => by
    cases k <;> cases x <;> cases y <;> simp [eqCells] at h
    · obtain ⟨_, h⟩ := h
      split at h <;> simp at h
      rename_i e he
      obtain ⟨h1, h2⟩ := eqCells_len he
      simp [h1, h2]
    all_goals
      split at h <;> simp at h
      rename_i e he
      obtain ⟨h1, h2⟩ := eqCells_len he
      simp [h1, h2]
  | [], _ :: _, _, _, h => by simp [eqCells] at h
  | [], [], _ :: _, _, h => by simp [eqCells] at h
  | k :: _, [], _, _, h => by cases k <;> simp [eqCells] at h
  | k :: _, x :: _, [], _, h => by cases k <;> cases x <;> simp [eqCells] at h
theorem eqCells_app : ∀ {ks l : List EqK} {xs ys : List DV} {b : Bool}, eqCells (ks ++ l) xs ys = some b →
    ∃ b1 b2, eqCells ks (xs.take ks.length) (ys.take ks.length) = some b1 ∧ eqCells l (xs.drop ks.length) (ys.drop ks.length) = some b2 ∧ b = (b1 && b2)
  | [], l, xs, ys, b, h => ⟨true, b, by simp [eqCells], by simpa using h, by simp⟩
  | k :: ks, l, xs, ys, b, h => by
    cases k <;> cases xs <;> cases ys <;> try (simp [eqCells] at h; done)
    all_goals
      rename_i x r y s
      cases x <;> cases y <;> simp [eqCells] at h
    · obtain ⟨hk, h⟩ := h
      split at h <;> simp at h
      rename_i e he
      obtain ⟨b1, b2, h1, h2, rfl⟩ := eqCells_app he
      exact ⟨_, b2, (by simp only [List.length_cons, List.take_succ_cons, eqCells, h1, if_pos hk]; rfl), by simpa using h2, by rw [← h, Bool.and_assoc]⟩
    all_goals
      split at h <;> simp at h
      rename_i e he
      obtain ⟨b1, b2, h1, h2, rfl⟩ := eqCells_app he
      exact ⟨_, b2, (by simp only [List.length_cons, List.take_succ_cons, eqCells, h1]; rfl), by simpa using h2, by rw [← h, Bool.and_assoc]⟩
def CellsAt (K : Known) (V : Array Value) (off : Nat) (xs : List DV) : Prop := ∀ (j : Nat) (d : DV), xs[j]? = some d → ∃ v, V[off + j]? = some v ∧ RepD K d v
theorem CellsAt.take {K : Known} {V : Array Value} {off : Nat} {xs : List DV} (h : CellsAt K V off xs) (n : Nat) : CellsAt K V off (xs.take n) := by
  intro j d hj
  simp only [List.getElem?_take] at hj
  split at hj
  · exact h j d hj
  · cases hj
theorem CellsAt.drop {K : Known} {V : Array Value} {off : Nat} {xs : List DV} (h : CellsAt K V off xs) (n : Nat) : CellsAt K V (off + n) (xs.drop n) := by
  intro j d hj
  simp only [List.getElem?_drop] at hj
  have := h (n + j) d hj
  rw [← Nat.add_assoc] at this
  exact this
theorem run_part_plain' {P : Program} {t : TypeId} {d : TypeDesc} (hu : P.underlying t = some d) (ha : isAggDesc d = false) {V : Array Value} {off : Nat} {v : Value} (hv : V[off]? = some v) (w : World) : (part t V off).run P w = .ok v w := by
  unfold part
  rw [Sem.run_bind, run_isAgg_desc hu w, ha]
  simp [hv]
theorem kinds_sound {P : Program} {K : Known} {w : World} : ∀ (n : Nat) (t : TypeId) (ks : List EqK), kindsOf P n t = some ks → ∀ (d : Nat), n ≤ d → ∀ (VX VY : Array Value) (off : Nat) (xs ys : List DV) (b : Bool), CellsAt K VX off xs → CellsAt K VY off ys → eqCells ks xs ys = some b →
    (isAggDesc ((P.underlying t).getD .invalid) = true → (P.info? t).map (·.size) = some ks.length) →
    (do let p ← part t VX off; let q ← part t VY off; Op.equalIn d t p q : Sem Bool).run P w = .ok b w
  | 0, t, ks, h => by simp [kindsOf] at h
  | n + 1, t, ks, h => by
    intro d hd VX VY off xs ys b hx hy he hsz
    obtain ⟨d, rfl⟩ : ∃ m, d = m + 1 := ⟨d - 1, by omega⟩
    unfold kindsOf at h
    split at h
    · rename_i k hu
      obtain rfl := Option.some.inj h
      obtain ⟨hl1, hl2⟩ := eqCells_len he
      match xs, ys, hl1, hl2 with
      | [x], [y], _, _ =>
        cases x <;> cases y <;> simp [eqCells] at he
        rename_i k1 a k2 b2
        obtain ⟨⟨rfl, rfl⟩, rfl⟩ := he
        obtain ⟨v1, g1, g2⟩ := hx 0 _ rfl
        obtain ⟨v2, g3, g4⟩ := hy 0 _ rfl
        rw [Nat.add_zero] at g1 g3
        rw [Sem.run_bind, run_part_plain' hu rfl g1, Result.andThen_ok, Sem.run_bind, run_part_plain' hu rfl g3, Result.andThen_ok]
        cases g2; cases g4
        rw [run_equalIn_int w d t _ _ _ _ hu]
        congr 1
    · rename_i hu
      obtain rfl := Option.some.inj h
      obtain ⟨hl1, hl2⟩ := eqCells_len he
      match xs, ys, hl1, hl2 with
      | [x], [y], _, _ =>
        cases x <;> cases y <;> simp [eqCells] at he
        subst he
        obtain ⟨v1, g1, g2⟩ := hx 0 _ rfl
        obtain ⟨v2, g3, g4⟩ := hy 0 _ rfl
        rw [Nat.add_zero] at g1 g3
        rw [Sem.run_bind, run_part_plain' hu rfl g1, Result.andThen_ok, Sem.run_bind, run_part_plain' hu rfl g3, Result.andThen_ok]
        cases g2; cases g4
        rw [run_equalIn_bool' w d t _ _ hu]
        congr 1
    · rename_i hu
      obtain rfl := Option.some.inj h
      obtain ⟨hl1, hl2⟩ := eqCells_len he
      match xs, ys, hl1, hl2 with
      | [x], [y], _, _ =>
        cases x <;> cases y <;> simp [eqCells] at he
        subst he
        obtain ⟨v1, g1, g2⟩ := hx 0 _ rfl
        obtain ⟨v2, g3, g4⟩ := hy 0 _ rfl
        rw [Nat.add_zero] at g1 g3
        rw [Sem.run_bind, run_part_plain' hu rfl g1, Result.andThen_ok, Sem.run_bind, run_part_plain' hu rfl g3, Result.andThen_ok]
        cases g2; cases g4
        rw [run_equalIn_string w d t _ _ hu, beqL]
    · rename_i fs hu
      split at h
      · cases h
      · rename_i hst
        have hst : P.stoodInHeld t = false := by simpa using hst
        have hsize := hsz (by rw [hu]; rfl)
        obtain ⟨hl1, hl2⟩ := eqCells_len he
        have hpart : ∀ (V : Array Value), (part t V off).run P w = .ok (.agg (V.extract off (off + ks.length))) w := by
          intro V
          unfold part
          rw [Sem.run_bind, run_isAgg_desc hu w]
          cases hi : P.info? t with
          | none => rw [hi] at hsize; cases hsize
          | some inf =>
            rw [hi] at hsize
            have : inf.size = ks.length := by simpa using hsize
            simp [isAggDesc, run_sizeOf_info hi, this]
        rw [Sem.run_bind, hpart, Result.andThen_ok, Sem.run_bind, hpart, Result.andThen_ok]
        have hfo : P.fieldsOf t = fs := by unfold Program.fieldsOf; rw [hu]
        rw [run_equalIn_struct w d t _ _ (by rw [hfo]; exact hu) hst, hfo]
        have hcx : CellsAt K (VX.extract off (off + ks.length)) 0 xs := by
          intro j dd hj
          obtain ⟨v, h1, h2⟩ := hx j dd hj
          have hj' : j < ks.length := by rw [← hl1]; exact (List.getElem?_eq_some_iff.1 hj).1
          have hlt := (Array.getElem?_eq_some_iff.1 h1).1
          refine ⟨v, ?_, h2⟩
          rw [Nat.zero_add, Array.getElem?_extract, if_pos (by omega)]
          exact h1
        have hcy : CellsAt K (VY.extract off (off + ks.length)) 0 ys := by
          intro j dd hj
          obtain ⟨v, h1, h2⟩ := hy j dd hj
          have hj' : j < ks.length := by rw [← hl2]; exact (List.getElem?_eq_some_iff.1 hj).1
          have hlt := (Array.getElem?_eq_some_iff.1 h1).1
          refine ⟨v, ?_, h2⟩
          rw [Nat.zero_add, Array.getElem?_extract, if_pos (by omega)]
          exact h1
        generalize VX.extract off (off + ks.length) = AX at hcx ⊢
        generalize VY.extract off (off + ks.length) = AY at hcy ⊢
        clear hpart hsize hsz hx hy hl1 hl2 hfo
        have fields : ∀ (fl : List Field) (o : Nat) (ks : List EqK) (xs ys : List DV) (b : Bool), kindsF P (kindsOf P n) fl o = some ks → CellsAt K AX o xs → CellsAt K AY o ys → eqCells ks xs ys = some b →
            (Op.eqFields d AX AY fl).run P w = .ok b w := by
          intro fl
          induction fl with
          | nil =>
            intro o ks xs ys b hk _ _ he
            simp [kindsF] at hk
            subst hk
            cases xs <;> cases ys <;> simp [eqCells] at he
            subst he
            rfl
          | cons g r ih =>
            intro o ks xs ys b hk hx hy he
            simp only [kindsF] at hk
            split at hk
            · rename_i hg
              split at hk
              · rename_i k1 hk1
                split at hk
                · rename_i hs1
                  split at hk <;> simp at hk
                  rename_i l hl
                  subst hk
                  obtain ⟨b1, b2, h1, h2, rfl⟩ := eqCells_app he
                  have hfield := kinds_sound (w := w) n g.type k1 hk1 d (by omega) AX AY o _ _ b1 (hx.take _) (hy.take _) h1 (fun _ => hs1)
                  have hrest := ih (o + k1.length) l _ _ b2 hl (hx.drop _) (hy.drop _) h2
                  unfold Op.eqFields
                  rw [if_pos hg.1, hg.2]
                  cases hp1 : (part g.type AX o).run P w with
                  | halt x w1 => rw [Sem.run_bind, hp1] at hfield; cases hfield
                  | ok p w1 =>
                    rw [Sem.run_bind, hp1, Result.andThen_ok] at hfield
                    rw [Sem.run_bind, hp1, Result.andThen_ok]
                    cases hp2 : (part g.type AY o).run P w1 with
                    | halt x w2 => rw [Sem.run_bind, hp2] at hfield; cases hfield
                    | ok q w2 =>
                      rw [Sem.run_bind, hp2, Result.andThen_ok] at hfield
                      rw [Sem.run_bind, hp2, Result.andThen_ok, Sem.run_bind, hfield, Result.andThen_ok]
                      cases b1 with
                      | false => simp
                      | true => simpa using hrest
                · cases hk
              · cases hk
            · cases hk
        exact fields fs.toList 0 ks xs ys b h hcx hcy he
    · cases h
theorem EqOk_of {P : Program} {t : TypeId} {ks : List EqK} {n : Nat} (hg : P.eqGuardType P.depth t = false) (hn : n ≤ 10000) (hk : kindsOf P n t = some ks) (hs : (P.info? t).map (·.size) = some ks.length) (ha : isAggDesc ((P.underlying t).getD .invalid) = true) : EqOk P t ks := by
  refine ⟨hg, fun K w xs ys vx vy b he hx hy => ?_⟩
  obtain ⟨hl1, hl2⟩ := eqCells_len he
  cases hx with
  | agg _ _ hx1 hx2 hx3 =>
    cases hy with
    | agg _ _ hy1 hy2 hy3 =>
      have hcx : CellsAt K vx 0 xs := fun j d hj => ⟨_, by rw [Nat.zero_add]; exact some_of_lt undef (by rw [hx1]; exact (List.getElem?_eq_some_iff.1 hj).1), hx3 j d hj⟩
      have hcy : CellsAt K vy 0 ys := fun j d hj => ⟨_, by rw [Nat.zero_add]; exact some_of_lt undef (by rw [hy1]; exact (List.getElem?_eq_some_iff.1 hj).1), hy3 j d hj⟩
      have := kinds_sound (w := w) n t ks hk 10000 hn vx vy 0 xs ys b hcx hcy he (fun _ => hs)
      cases hu : P.underlying t with
      | none => rw [hu] at ha; cases ha
      | some dsc =>
        rw [hu] at ha
        have hpart : ∀ (V : Array Value), V.size = ks.length → (part t V 0).run P w = .ok (.agg V) w := by
          intro V hV
          unfold part
          rw [Sem.run_bind, run_isAgg_desc hu w]
          cases hi : P.info? t with
          | none => rw [hi] at hs; cases hs
          | some inf =>
            rw [hi] at hs
            have : inf.size = ks.length := by simpa using hs
            have ha' : isAggDesc dsc = true := ha
            simp [ha', run_sizeOf_info hi, this, ← hV]
        rw [Sem.run_bind, hpart vx (by rw [hx1, hl1]), Result.andThen_ok, Sem.run_bind, hpart vy (by rw [hy1, hl2]), Result.andThen_ok] at this
        exact this
/-! ### The table's check -/
def zeroB : DV → Value → Bool
  | .int k n, .int k' n' => decide (k = k' ∧ n = n')
  | .bool b, .bool b' => b == b'
  | .str [], .string s => s.data.toList.isEmpty
  | .nil _, .slice none 0 0 => true
  | .nilI, .nilIface => true
  | .raw (.pointer none), .pointer none => true
  | .raw (.map none), .map none => true
  | .raw .nilFunc, .nilFunc => true
  | _, _ => false
theorem zeroB_sound {d : DV} {v : Value} (h : zeroB d v = true) : v.oneCell' = true ∧ ∀ K, RepD K d v := by
  unfold zeroB at h
  split at h
  · obtain ⟨rfl, rfl⟩ := of_decide_eq_true h; exact ⟨rfl, fun K => .int _ _⟩
  · simp at h; subst h; exact ⟨rfl, fun K => .bool _⟩
  · rename_i s
    have : s = ⟨([] : List UInt8).toArray⟩ := by
      obtain ⟨⟨l⟩⟩ := s
      simp at h
      rw [h]
    rw [this]
    exact ⟨rfl, fun K => .str [] (by simp)⟩
  · exact ⟨rfl, fun K => .nil _⟩
  · exact ⟨rfl, fun K => .nilI⟩
  · exact ⟨rfl, fun K => .raw _⟩
  · exact ⟨rfl, fun K => .raw _⟩
  · exact ⟨rfl, fun K => .raw _⟩
  · cases h
def zeroLB : List DV → List Value → Bool
  | [], [] => true
  | d :: r, v :: s => zeroB d v && zeroLB r s
  | _, _ => false
theorem zeroLB_sound : ∀ {l : List DV} {vs : List Value}, zeroLB l vs = true → l.length = vs.length ∧ ∀ (j : Nat) (d : DV), l[j]? = some d → ∃ v, vs[j]? = some v ∧ v.oneCell' = true ∧ ∀ K, RepD K d v
  | [], [], _ => ⟨rfl, fun j d hj => by simp at hj⟩
  | d :: r, v :: s, h => by
    simp only [zeroLB, Bool.and_eq_true] at h
    obtain ⟨h1, h2⟩ := zeroLB_sound h.2
    refine ⟨by simp [h1], fun j d' hj => ?_⟩
    cases j with
    | zero => simp at hj; subst hj; obtain ⟨g1, g2⟩ := zeroB_sound h.1; exact ⟨v, rfl, g1, g2⟩
    | succ j => simpa using h2 j d' (by simpa using hj)
  | [], _ :: _, h => by cases h
  | _ :: _, [], h => by cases h
def fieldsB (P : Program) : List (Nat × Nat × Bool) → List Field → Bool
  | [], [] => true
  | (off, sz, ag) :: r, f :: s => decide (f.offset = off) && decide (0 < sz) && (match P.info? f.type with | some inf => decide (inf.size = sz) | none => false) && (match P.underlying f.type with | some d => isAggDesc d == ag | none => false) && fieldsB P r s
  | _, _ => false
theorem fieldsB_sound {P : Program} : ∀ {l : List (Nat × Nat × Bool)} {fs : List Field}, fieldsB P l fs = true → l.length = fs.length ∧ ∀ (k : Nat) (off sz : Nat) (ag : Bool), l[k]? = some (off, sz, ag) →
      ∃ f, fs[k]? = some f ∧ f.offset = off ∧ 0 < sz ∧ (∃ inf, P.info? f.type = some inf ∧ inf.size = sz) ∧ ∃ df, P.underlying f.type = some df ∧ isAggDesc df = ag
  | [], [], _ => ⟨rfl, fun k off sz ag hk => by simp at hk⟩
  | (o', s', a') :: r, f :: s, h => by
    simp only [fieldsB, Bool.and_eq_true, decide_eq_true_eq] at h
    obtain ⟨⟨⟨⟨h1, h2⟩, h3⟩, h4⟩, h5⟩ := h
    obtain ⟨g1, g2⟩ := fieldsB_sound h5
    refine ⟨by simp [g1], fun k off sz ag hk => ?_⟩
    cases k with
    | zero =>
      simp at hk
      obtain ⟨rfl, rfl, rfl⟩ := hk
      refine ⟨f, rfl, h1, h2, ?_, ?_⟩
      · split at h3
        · rename_i inf hi; exact ⟨inf, hi, of_decide_eq_true h3⟩
        · cases h3
      · split at h4
        · rename_i d hd; exact ⟨d, hd, by simpa using h4⟩
        · cases h4
    | succ k => simpa using g2 k off sz ag (by simpa using hk)
  | [], _ :: _, h => by cases h
  | _ :: _, [], h => by cases h
def undB (P : Program) (i : TyI) (d : TypeDesc) : Bool :=
  match i.ty, d with
  | .int k, .int k' => decide (k' = k) && decide (i.size = 1)
  | .bool, .bool => decide (i.size = 1)
  | .str, .string => decide (i.size = 1)
  | .slice e sz bytes, .slice e' => decide (e' = e) && decide (i.size = 1) && decide (0 < sz) &&
    (match P.info? e with | some ie => decide (ie.size = sz) && decide (ie.bytes = bytes) && (match ie.zero with | some z => decide (z.cells.size = sz) | none => false) | none => false)
  | .struct fs, .struct fields => fieldsB P fs fields.toList
  | .iface, .interface _ => decide (i.size = 1)
  | .ptr, .pointer _ => decide (i.size = 1)
  | .fn, .func _ _ _ => decide (i.size = 1)
  | .other, d => !isAggDesc d && decide (i.size = 1)
  | _, _ => false
theorem undB_sound {P : Program} {i : TyI} {d : TypeDesc} (h : undB P i d = true) : UndOk P i d := by
  unfold undB at h
  unfold UndOk
  split at h
  · rename_i hi; rw [hi]; simp at h; exact ⟨by rw [h.1], h.2⟩
  · rename_i hi; rw [hi]; simp at h; exact ⟨rfl, h⟩
  · rename_i hi; rw [hi]; simp at h; exact ⟨rfl, h⟩
  · rename_i e sz bytes e' hi
    rw [hi]
    simp only [Bool.and_eq_true, decide_eq_true_eq] at h
    obtain ⟨⟨⟨h1, h2⟩, h3⟩, h4⟩ := h
    refine ⟨by rw [h1], h2, h3, ?_⟩
    split at h4
    · rename_i ie hie
      simp only [Bool.and_eq_true, decide_eq_true_eq] at h4
      obtain ⟨⟨h5, h6⟩, h7⟩ := h4
      split at h7
      · rename_i z hz; exact ⟨ie, z, hie, h5, h6, hz, of_decide_eq_true h7⟩
      · cases h7
    · cases h4
  · rename_i fs fields hi
    rw [hi]
    obtain ⟨h1, h2⟩ := fieldsB_sound h
    exact ⟨fields, rfl, by simpa using h1, fun k off sz ag hk => by simpa using h2 k off sz ag hk⟩
  · rename_i hi; rw [hi]; exact ⟨⟨_, rfl⟩, of_decide_eq_true h⟩
  · rename_i hi; rw [hi]; exact ⟨⟨_, rfl⟩, of_decide_eq_true h⟩
  · rename_i hi; rw [hi]; exact ⟨⟨_, _, _, rfl⟩, of_decide_eq_true h⟩
  · rename_i hi; rw [hi]; simp at h; exact h
  · cases h
def goodB (P : Program) (t : TypeId) (i : TyI) : Bool :=
  (match P.info? t with
   | some inf => decide (inf.size = i.size) && decide (i.zero.length = i.size) &&
     (match inf.zero with | some z => zeroLB i.zero z.cells.toList && (match z with | .tuple _ => false | .agg _ => true | _ => !i.isAgg) | none => false)
   | none => false) &&
  (match P.underlying t with | some d => undB P i d | none => false) &&
  (i.eqf.isEmpty || (!P.eqGuardType P.depth t && (match kindsOf P 9 t with | some ks => decide (ks.length = i.eqf.length) && (ks.zip i.eqf).all (fun (a, b) => match a, b with | .int k, .int k' => decide (k = k') | .bool, .bool => true | .str, .str => true | _, _ => false) | none => false) && decide ((P.info? t).map (·.size) = some i.eqf.length) && isAggDesc ((P.underlying t).getD .invalid)))
theorem eqks : ∀ {ks l : List EqK}, ks.length = l.length → (ks.zip l).all (fun (a, b) => match a, b with | .int k, .int k' => decide (k = k') | .bool, .bool => true | .str, .str => true | _, _ => false) = true → ks = l
  | [], [], _, _ => rfl
  | a :: r, b :: s, hl, h => by
    simp only [List.zip_cons_cons, List.all_cons, Bool.and_eq_true] at h
    have := eqks (ks := r) (l := s) (by simpa using hl) h.2
    subst this
    cases a <;> cases b <;> first | rfl | (simp at h; done) | (simp at h; rw [h.1])
  | [], _ :: _, hl, _ => by simp at hl
  | _ :: _, [], hl, _ => by simp at hl
theorem goodB_sound {P : Program} {t : TypeId} {i : TyI} (h : goodB P t i = true) : i.Good P t := by
  unfold goodB at h
  simp only [Bool.and_eq_true, Bool.or_eq_true] at h
  obtain ⟨⟨h1, h2⟩, h3⟩ := h
  refine ⟨?_, ?_, fun he => ?_⟩
  · split at h1
    · rename_i inf hi
      simp only [Bool.and_eq_true, decide_eq_true_eq] at h1
      obtain ⟨⟨g1, g2⟩, g3⟩ := h1
      split at g3
      · rename_i z hz
        simp only [Bool.and_eq_true] at g3
        obtain ⟨k1, k2⟩ := zeroLB_sound g3.1
        refine ⟨inf, z, hi, g1, hz, by simpa [g2] using k1.symm, g2, fun j d hj => ?_, fun ha => ?_, fun ts ht => ?_⟩
        · obtain ⟨v, k3, k4, k5⟩ := k2 j d hj
          rw [getD_of_some (by simpa using k3)]
          exact ⟨k4, k5⟩
        · have := g3.2
          cases z <;> simp [ha] at this
          exact ⟨_, rfl⟩
        · have := g3.2
          rw [ht] at this; cases this
      · cases g3
    · cases h1
  · split at h2
    · rename_i d hd; exact ⟨d, hd, undB_sound h2⟩
    · cases h2
  · rcases h3 with h3 | h3
    · rw [he] at h3; cases h3
    · obtain ⟨⟨⟨g1, g2⟩, g3⟩, g4⟩ := h3
      split at g2
      · rename_i ks hk
        simp only [Bool.and_eq_true, decide_eq_true_eq] at g2
        obtain rfl := eqks g2.1 g2.2
        exact EqOk_of (n := 9) (by simpa using g1) (by omega) hk (of_decide_eq_true g3) g4
      · cases g2
def tabF (l : List (TypeId × TyI)) (t : TypeId) : Option TyI := match l with
  | [] => none
  | (k, i) :: r => if t = k then some i else tabF r t
def tabOf (l : List (TypeId × TyI)) : Tab := { f := tabF l }
theorem tabF_good {P : Program} : ∀ {l : List (TypeId × TyI)}, (∀ p ∈ l, goodB P p.1 p.2 = true) → ∀ t i, tabF l t = some i → i.Good P t
  | [], _, t, i, h => by simp [tabF] at h
  | (k, j) :: r, hl, t, i, h => by
    unfold tabF at h
    split at h
    · rename_i q
      subst q
      obtain rfl := Option.some.inj h
      exact goodB_sound (hl (t, j) (by simp))
    · exact tabF_good (fun p hp => hl p (by simp [hp])) t i h
theorem tabOf_good {P : Program} {l : List (TypeId × TyI)} (hl : ∀ p ∈ l, goodB P p.1 p.2 = true) : ∀ t i, (tabOf l).f t = some i → i.Good P t := fun t i h => tabF_good hl t i h
theorem all_good {P : Program} {l : List (TypeId × TyI)} (h : (l.all fun p => goodB P p.1 p.2) = true) : ∀ p ∈ l, goodB P p.1 p.2 = true := by
  simpa [List.all_eq_true] using h
theorem EnterOk_of {P : Program} {g : FuncId} {fn : Func} (hf : P.funcs[g]? = some fn) (hn : (fn.name == "runtime.NumGoroutine") = false) (hb : fn.body.isNone = false) : EnterOk P g := by
  intro args w
  have hn' : fn.name ≠ "runtime.NumGoroutine" := by simpa using hn
  have hb' : fn.body ≠ none := by intro h; rw [h] at hb; cases hb
  simp [callFunc, hf, hn', hb']
end Go.Proofs.YtbeafnkcimfeeaaGreatDoor.AM
/- The abstract machine (17): rules to step with. -/
namespace Go.Proofs.YtbeafnkcimfeeaaGreatDoor.AM
set_option linter.unusedVariables false
set_option linter.unusedSimpArgs false
open Go.RowKit
set_option linter.unusedVariables false
section
variable {P : Program} {T : Tab} {N : Nat} {ops : Array Oper} {o : Oper} {l : List Oper} {env : List (Nat × PV)} {mem : List (Key × List PV)} {live : List (Key × Bool)} {ep : Nat} {K : LSt → List Eff → Prop} {d : Nat} {Q : Exit → LSt → Prop} {s : LSt}
theorem rl_nil (h : K ⟨env, mem, live, ep⟩ []) : RunL P T ops [] ⟨env, mem, live, ep⟩ K := h
theorem rl_step (hg : o.guard = none) (h : OpK P T true o (LSt.mk env mem live ep).den fun e => RunL P T ops l (appL o.dst e ⟨env, mem, live, ep⟩) fun s' es => K s' (e :: es)) : RunL P T ops (o :: l) ⟨env, mem, live, ep⟩ K := by
  unfold RunL StepK
  rw [hg]
  exact h
theorem rl_val {v : PV} (hg : o.guard = none) (hd : o.dst = some d) (h : opOut T o (LSt.mk env mem live ep).den = .eff { val := v })
    (hk : RunL P T ops l ⟨(d, v) :: env, mem, live, ep⟩ fun s' es => K s' ({ val := v } :: es)) : RunL P T ops (o :: l) ⟨env, mem, live, ep⟩ K := by
  refine rl_step hg ?_
  unfold OpK
  rw [h, hd]
  exact hk
theorem rl_bool {b0 : Bool} (hg : o.guard = none) (hd : o.dst = some d) (h : opOut T o (LSt.mk env mem live ep).den = .eff { val := .dat (.bool b0) })
    (hk : ∀ b, b0 = b → RunL P T ops l ⟨(d, .dat (.bool b)) :: env, mem, live, ep⟩ fun s' es => K s' ({ val := .dat (.bool b) } :: es)) : RunL P T ops (o :: l) ⟨env, mem, live, ep⟩ K :=
  rl_val hg hd h (hk _ rfl)
theorem rl_gated {v : PV} {p : Prop} (hg : o.guard = none) (hd : o.dst = some d) (h : opOut T o (LSt.mk env mem live ep).den = .gated p { val := v })
    (hk : p → RunL P T ops l ⟨(d, v) :: env, mem, live, ep⟩ fun s' es => K s' ({ val := v } :: es)) : RunL P T ops (o :: l) ⟨env, mem, live, ep⟩ K := by
  refine rl_step hg ?_
  unfold OpK
  rw [h, hd]
  exact hk
theorem rl_need {v : PV} {p : Prop} (hg : o.guard = none) (hd : o.dst = some d) (h : opOut T o (LSt.mk env mem live ep).den = .need p { val := v }) (hp : p)
    (hk : RunL P T ops l ⟨(d, v) :: env, mem, live, ep⟩ fun s' es => K s' ({ val := v } :: es)) : RunL P T ops (o :: l) ⟨env, mem, live, ep⟩ K := by
  refine rl_step hg ?_
  unfold OpK
  rw [h, hd]
  exact ⟨hp, hk⟩
theorem rl_needN {v : PV} {p : Prop} (hg : o.guard = none) (hd : o.dst = some d) (h : opOut T o (LSt.mk env mem live ep).den = .need p { val := v, nw := [0] }) (hp : p)
    (hk : RunL P T ops l ⟨(d, v) :: env, mem, ((d, 0, ep), true) :: live, ep⟩ fun s' es => K s' ({ val := v, nw := [0] } :: es)) : RunL P T ops (o :: l) ⟨env, mem, live, ep⟩ K := by
  refine rl_step hg ?_
  unfold OpK
  rw [h, hd]
  exact ⟨hp, hk⟩
theorem rl_new {v : PV} (hg : o.guard = none) (hd : o.dst = some d) (h : opOut T o (LSt.mk env mem live ep).den = .eff { val := v, nw := [0] })
    (hk : RunL P T ops l ⟨(d, v) :: env, mem, ((d, 0, ep), true) :: live, ep⟩ fun s' es => K s' ({ val := v, nw := [0] } :: es)) : RunL P T ops (o :: l) ⟨env, mem, live, ep⟩ K := by
  refine rl_step hg ?_
  unfold OpK
  rw [h, hd]
  exact hk
theorem rl_alloc {v : PV} {cs : List PV} (hg : o.guard = none) (hd : o.dst = some d) (h : opOut T o (LSt.mk env mem live ep).den = .eff { val := v, al := [(0, cs)] })
    (hk : RunL P T ops l ⟨(d, v) :: env, ((d, 0, ep), cs) :: mem, live, ep⟩ fun s' es => K s' ({ val := v, al := [(0, cs)] } :: es)) : RunL P T ops (o :: l) ⟨env, mem, live, ep⟩ K := by
  refine rl_step hg ?_
  unfold OpK
  rw [h, hd]
  exact hk
theorem rl_twoT {x y : Option PV} {v : PV} (hg : o.guard = none) (hd : o.dst = some d) (h : opOut T o (LSt.mk env mem live ep).den = .two true x y) (hx : x = some v)
    (hk : RunL P T ops l ⟨(d, v) :: env, mem, live, ep⟩ fun s' es => K s' ({ val := v } :: es)) : RunL P T ops (o :: l) ⟨env, mem, live, ep⟩ K := by
  refine rl_step hg ?_
  unfold OpK
  rw [h, hd, hx]
  exact ⟨fun _ => hk, fun q => by cases q⟩
theorem rl_twoF {x y : Option PV} {v : PV} (hg : o.guard = none) (hd : o.dst = some d) (h : opOut T o (LSt.mk env mem live ep).den = .two false x y) (hy : y = some v)
    (hk : RunL P T ops l ⟨(d, v) :: env, mem, live, ep⟩ fun s' es => K s' ({ val := v } :: es)) : RunL P T ops (o :: l) ⟨env, mem, live, ep⟩ K := by
  refine rl_step hg ?_
  unfold OpK
  rw [h, hd, hy]
  exact ⟨(fun q => by cases q), fun _ => hk⟩
theorem rl_row {p : List DV → Prop} {e : List DV → Eff} {v : PV} (cs : List DV) (hg : o.guard = none) (hd : o.dst = some d) (h : opOut T o (LSt.mk env mem live ep).den = .row p e) (hp : p cs) (he : e cs = { val := v })
    (hk : RunL P T ops l ⟨(d, v) :: env, mem, live, ep⟩ fun s' es => K s' ({ val := v } :: es)) : RunL P T ops (o :: l) ⟨env, mem, live, ep⟩ K := by
  refine rl_step hg ?_
  unfold OpK
  rw [h, hd]
  refine ⟨cs, hp, ?_⟩
  rw [he]
  exact hk
theorem rl_byte {p : UInt8 → Prop} {e : UInt8 → Eff} {v : PV} (c : UInt8) (hg : o.guard = none) (hd : o.dst = some d) (h : opOut T o (LSt.mk env mem live ep).den = .byte p e) (hp : p c) (he : e c = { val := v })
    (hk : RunL P T ops l ⟨(d, v) :: env, mem, live, ep⟩ fun s' es => K s' ({ val := v } :: es)) : RunL P T ops (o :: l) ⟨env, mem, live, ep⟩ K := by
  refine rl_step hg ?_
  unfold OpK
  rw [h, hd]
  refine ⟨c, hp, ?_⟩
  rw [he]
  exact hk
theorem rl_load {k : Key} {f : List PV → Option Eff} {cs : List PV} {v : PV} (hg : o.guard = none) (hd : o.dst = some d) (h : opOut T o (LSt.mk env mem live ep).den = .box k f) (hm : lookM mem k = some cs) (hf : f cs = some { val := v })
    (hk : RunL P T ops l ⟨(d, v) :: env, mem, live, ep⟩ fun s' es => K s' ({ val := v, rd := [k] } :: es)) : RunL P T ops (o :: l) ⟨env, mem, live, ep⟩ K := by
  refine rl_step hg ?_
  unfold OpK
  rw [h, hd]
  have hm' : (LSt.mk env mem live ep).den.mem k = some cs := hm
  simp only [Out.holds, hm', hf]
  exact hk
theorem rl_store {k : Key} {f : List PV → Option Eff} {cs new : List PV} (hg : o.guard = none) (hd : o.dst = none) (h : opOut T o (LSt.mk env mem live ep).den = .box k f) (hm : lookM mem k = some cs) (hf : f cs = some { val := unitP, wr := [(k, new)] })
    (hk : RunL P T ops l ⟨env, (k, new) :: mem, live, ep⟩ fun s' es => K s' ({ val := unitP, wr := [(k, new)], rd := [k] } :: es)) : RunL P T ops (o :: l) ⟨env, mem, live, ep⟩ K := by
  refine rl_step hg ?_
  unfold OpK
  rw [h, hd]
  have hm' : (LSt.mk env mem live ep).den.mem k = some cs := hm
  simp only [Out.holds, hm', hf]
  exact hk
theorem rl_needA {v : PV} {cs : List PV} {p : Prop} (hg : o.guard = none) (hd : o.dst = some d) (h : opOut T o (LSt.mk env mem live ep).den = .need p { val := v, al := [(0, cs)] }) (hp : p)
    (hk : RunL P T ops l ⟨(d, v) :: env, ((d, 0, ep), cs) :: mem, live, ep⟩ fun s' es => K s' ({ val := v, al := [(0, cs)] } :: es)) : RunL P T ops (o :: l) ⟨env, mem, live, ep⟩ K := by
  refine rl_step hg ?_
  unfold OpK
  rw [h, hd]
  exact ⟨hp, hk⟩
theorem rl_boxn {k : Key} {p : List PV → Prop} {f : List PV → Option Eff} {cs : List PV} {v : PV} (hg : o.guard = none) (hd : o.dst = some d) (h : opOut T o (LSt.mk env mem live ep).den = .boxn k p f) (hm : lookM mem k = some cs) (hp : p cs) (hf : f cs = some { val := v })
    (hk : RunL P T ops l ⟨(d, v) :: env, mem, live, ep⟩ fun s' es => K s' ({ val := v, rd := [k] } :: es)) : RunL P T ops (o :: l) ⟨env, mem, live, ep⟩ K := by
  refine rl_step hg ?_
  unfold OpK
  rw [h, hd]
  have hm' : (LSt.mk env mem live ep).den.mem k = some cs := hm
  simp only [Out.holds, hm', hf]
  exact ⟨hp, hk⟩
theorem rl_frz {k : Key} {p : List PV → Prop} {f : List PV → Option Eff} {cs : List PV} {mem' : List (Key × List PV)} {v : PV} (hg : o.guard = none) (hd : o.dst = some d) (h : opOut T o (LSt.mk env mem live ep).den = .boxn k p f) (hm : lookM mem k = some cs) (hp : p cs)
    (hf : f cs = some { val := v, rm := [k] }) (hr : delM [k] mem = mem')
    (hk : RunL P T ops l ⟨(d, v) :: env, mem', live, ep⟩ fun s' es => K s' ({ val := v, rd := [k], rm := [k] } :: es)) : RunL P T ops (o :: l) ⟨env, mem, live, ep⟩ K := by
  subst hr
  refine rl_step hg ?_
  unfold OpK
  rw [h, hd]
  have hm' : (LSt.mk env mem live ep).den.mem k = some cs := hm
  simp only [Out.holds, hm', hf]
  exact ⟨hp, hk⟩
theorem rl_own {τ : Key} {p : Prop} {v : PV} (hg : o.guard = none) (hd : o.dst = some d) (h : opOut T o (LSt.mk env mem live ep).den = .own τ p { val := v, nw := [0] }) (hl : lookB live τ = true) (hp : p)
    (hk : RunL P T ops l ⟨(d, v) :: env, mem, ((d, 0, ep), true) :: (τ, false) :: live, ep⟩ fun s' es => K s' ({ val := v, nw := [0], use := [τ] } :: es)) : RunL P T ops (o :: l) ⟨env, mem, live, ep⟩ K := by
  refine rl_step hg ?_
  unfold OpK
  rw [h, hd]
  exact ⟨hl, hp, hk⟩
def argOk : List PV → List DV → Prop
  | [], [] => True
  | .dat d :: r, x :: l => (d = x ∨ normD d = x ∨ ∃ s1 s2, d = .nil s1 ∧ x = .lst s2 []) ∧ argOk r l
  | .acc _ sz es :: r, x :: l => (DV.lst sz es = x ∨ False) ∧ argOk r l
  | .mix cs :: r, x :: l => ((allD1 cs).map .agg = some x ∨ (allD1 cs).map (fun ds => normD (.agg ds)) = some x) ∧ argOk r l
  | _, _ => False
theorem argOk_one {v : PV} {x : DV} (h : argOk [v] [x]) {c : Cfg} {y : Value} (hr : RepP c v y) : RepD c.K x y := by
  cases v with
  | dat d =>
    cases hr with
    | dat _ _ hr =>
      rcases h.1 with rfl | rfl | ⟨s1, s2, rfl, rfl⟩
      · exact hr
      · exact normD_sound hr
      · cases hr; exact .nils s2
  | acc τ sz es =>
    cases hr with
    | acc _ _ _ _ _ _ hr => rw [← h.1.resolve_right id]; exact hr
  | mix cs =>
    rcases h.1 with q | q
    · exact asD_sound hr q
    · simp only [Option.map_eq_some_iff] at q
      obtain ⟨ds, q1, rfl⟩ := q
      exact normD_sound (asD_sound (d := .agg ds) hr (by simp [asD, q1]))
  | _ => exact h.elim
theorem argOk_cons {v : PV} {x : DV} {r : List PV} {l : List DV} (h : argOk (v :: r) (x :: l)) : argOk [v] [x] ∧ argOk r l := by
  cases v <;> first | exact ⟨⟨h.1, trivial⟩, h.2⟩ | exact h.elim
theorem argOk_sound : ∀ {args : List PV} {ds : List DV}, argOk args ds → args.length = ds.length ∧ ∀ (j : Nat) (v : PV) (x : DV), args[j]? = some v → ds[j]? = some x → ∀ c y, RepP c v y → RepD c.K x y
  | [], [], _ => ⟨rfl, fun j v x h => by simp at h⟩
  | v :: r, x :: l, h => by
    obtain ⟨h0, hr⟩ := argOk_cons h
    obtain ⟨h1, h2⟩ := argOk_sound hr
    refine ⟨by simp [h1], fun j v' x' hv hx c y hr => ?_⟩
    cases j with
    | zero =>
      simp at hv hx
      subst hv hx
      exact argOk_one h0 hr
    | succ j => exact h2 j v' x' (by simpa using hv) (by simpa using hx) c y hr
  | [], _ :: _, h => h.elim
  | v :: r, [], h => by cases v <;> exact h.elim
theorem rl_call {g : FuncId} {args : List PV} {ds : List DV} {r : DV} (hc : CallsD P g ds r) (hg : o.guard = none) (hd : o.dst = some d) (h : opOut T o (LSt.mk env mem live ep).den = .call g args) (ha : argOk args ds)
    (hk : RunL P T ops l ⟨(d, .dat r) :: env, mem, live, ep⟩ fun s' es => K s' ({ val := .dat r } :: es)) : RunL P T ops (o :: l) ⟨env, mem, live, ep⟩ K := by
  refine rl_step hg ?_
  unfold OpK
  rw [h]
  simp only [Out.holds]
  rw [hd]
  exact CallK.pure hc (argOk_sound ha).1 (argOk_sound ha).2 hk
theorem rl_on {j : Nat} {want b : Bool} {dst : Option Nat} {op : Op} {ty : TypeId} {pos : String} {after : Array Edge} (hl : ((ops[j]?).bind (·.dst)).bind (lookE env) = some (.dat (.bool b))) (hb : b = want)
    (hk : RunL P T ops ({ dst := dst, op := op, type := ty, pos := pos, after := after, guard := none } :: l) ⟨env, mem, live, ep⟩ K) : RunL P T ops ({ dst := dst, op := op, type := ty, pos := pos, after := after, guard := some (j, want) } :: l) ⟨env, mem, live, ep⟩ K := by
  unfold RunL StepK at hk ⊢
  have hl' : ((ops[j]?).bind (·.dst)).bind (LSt.mk env mem live ep).den.env = some (.dat (.bool b)) := hl
  simp only [hl'] at hk ⊢
  refine ⟨fun _ => hk, fun q => (by rw [hb] at q; cases want <;> cases q)⟩
theorem rl_off {j : Nat} {want b : Bool} {op : Op} {ty : TypeId} {pos : String} {after : Array Edge} {d : Nat} (hl : ((ops[j]?).bind (·.dst)).bind (lookE env) = some (.dat (.bool b))) (hb : b = !want)
    (hk : RunL P T ops l ⟨(d, unitP) :: env, mem, live, ep⟩ fun s' es => K s' (skipE :: es)) : RunL P T ops ({ dst := some d, op := op, type := ty, pos := pos, after := after, guard := some (j, want) } :: l) ⟨env, mem, live, ep⟩ K := by
  unfold RunL StepK
  have hl' : ((ops[j]?).bind (·.dst)).bind (LSt.mk env mem live ep).den.env = some (.dat (.bool b)) := hl
  simp only [hl']
  refine ⟨fun q => (by rw [hb] at q; cases want <;> cases q), fun _ => hk⟩
theorem rl_offU {j : Nat} {want : Bool} {op : Op} {ty : TypeId} {pos : String} {after : Array Edge} {d : Nat} (hl : ((ops[j]?).bind (·.dst)).bind (lookE env) = some (.dat (.tup [])))
    (hk : RunL P T ops l ⟨(d, unitP) :: env, mem, live, ep⟩ fun s' es => K s' (skipE :: es)) : RunL P T ops ({ dst := some d, op := op, type := ty, pos := pos, after := after, guard := some (j, want) } :: l) ⟨env, mem, live, ep⟩ K := by
  unfold RunL StepK
  have hl' : ((ops[j]?).bind (·.dst)).bind (LSt.mk env mem live ep).den.env = some (.dat (.tup [])) := hl
  simp only [hl']
  exact hk
theorem rl_case {j : Nat} {want : Bool} {dst : Option Nat} {op : Op} {ty : TypeId} {pos : String} {after : Array Edge} {b : Bool} (hl : ((ops[j]?).bind (·.dst)).bind (lookE env) = some (.dat (.bool b)))
    (h1 : b = true → RunL P T ops ({ dst := dst, op := op, type := ty, pos := pos, after := after, guard := some (j, want) } :: l) ⟨env, mem, live, ep⟩ K)
    (h2 : b = false → RunL P T ops ({ dst := dst, op := op, type := ty, pos := pos, after := after, guard := some (j, want) } :: l) ⟨env, mem, live, ep⟩ K) : RunL P T ops ({ dst := dst, op := op, type := ty, pos := pos, after := after, guard := some (j, want) } :: l) ⟨env, mem, live, ep⟩ K := by
  cases b
  · exact h2 rfl
  · exact h1 rfl
theorem aw_skip (h : Q .normal s) : AWp P T N .skip Q s := h
theorem aw_label {i : Nat} (h : Q .normal s) : AWp P T N (.label i) Q s := h
theorem aw_seq {a b : Code} (h : AWp P T N a (thenQ (AWp P T N b Q) Q) s) : AWp P T N (.seq a b) Q s := h
theorem aw_block {i : Nat} {a : Code} (h : AWp P T N a (blockQ i Q) s) : AWp P T N (.block i a) Q s := h
theorem aw_scope {a : Code} (h : AWp P T N a (noGotoQ Q) s) : AWp P T N (.scope a) Q s := h
theorem ng_n (h : Q .normal s) : noGotoQ Q .normal s := h
theorem ng_r (h : Q .ret s) : noGotoQ Q .ret s := h
theorem ng_x {i : Nat} (h : Q (.exit i) s) : noGotoQ Q (.exit i) s := h
theorem aw_exit {i : Nat} (h : Q (.exit i) s) : AWp P T N (.exit i) Q s := h
theorem aw_ret (h : Q .ret s) : AWp P T N .ret Q s := h
theorem aw_reg {i : Nat} {l : List Oper} (hd : dstOk N l = true) (h : RunL P T ⟨l⟩ l ⟨env, mem, live, ep + 1⟩ fun s' _ => Q .normal s') : AWp P T N (.region i ⟨l⟩ false) Q ⟨env, mem, live, ep⟩ := by
  refine ⟨hd, _, .refl _, ?_⟩
  have : (fun s' (es : List Eff) => (false = true → regOk ⟨l⟩ es = true) ∧ Q .normal s') = fun s' _ => Q .normal s' := by
    funext s' es
    simp
  simp only [this]
  exact h
theorem aw_draw {i : Nat} {l : List Oper} (hd : dstOk N l = true) (h : RunL P T ⟨l⟩ l ⟨env, mem, live, ep + 1⟩ fun s' es => regOk ⟨l⟩ es = true ∧ Q .normal s') : AWp P T N (.region i ⟨l⟩ true) Q ⟨env, mem, live, ep⟩ := by
  refine ⟨hd, _, .refl _, ?_⟩
  have : (fun s' (es : List Eff) => (true = true → regOk ⟨l⟩ es = true) ∧ Q .normal s') = fun s' es => regOk ⟨l⟩ es = true ∧ Q .normal s' := by
    funext s' es
    simp
  show RunL P T ⟨l⟩ l ⟨env, mem, live, ep + 1⟩ (fun s' (es : List Eff) => (true = true → regOk ⟨l⟩ es = true) ∧ Q .normal s')
  rw [this]
  exact h
theorem aw_cond {c : Operand} {x y : Code} {b : Bool} (hc : evalO (LSt.mk env mem live ep).den c = some (.dat (.bool b))) (h1 : b = true → AWp P T N x Q ⟨env, mem, live, ep⟩) (h2 : b = false → AWp P T N y Q ⟨env, mem, live, ep⟩) : AWp P T N (.cond c x y) Q ⟨env, mem, live, ep⟩ := by
  unfold AWp
  rw [hc]
  exact ⟨h1, h2⟩
theorem aw_condT {c : Operand} {x y : Code} (hc : evalO (LSt.mk env mem live ep).den c = some (.dat (.bool true))) (h1 : AWp P T N x Q ⟨env, mem, live, ep⟩) : AWp P T N (.cond c x y) Q ⟨env, mem, live, ep⟩ :=
  aw_cond hc (fun _ => h1) (fun q => by cases q)
theorem aw_condF {c : Operand} {x y : Code} (hc : evalO (LSt.mk env mem live ep).den c = some (.dat (.bool false))) (h1 : AWp P T N y Q ⟨env, mem, live, ep⟩) : AWp P T N (.cond c x y) Q ⟨env, mem, live, ep⟩ :=
  aw_cond hc (fun q => by cases q) (fun _ => h1)
theorem aw_loop {body : Code} (I : Nat → LSt → Prop) (n : Nat) (s0 : LSt) (h0 : s0.le s) (h1 : I n s0) (h : ∀ n s, I n s → AWp P T N body (thenQ (fun s' => ∃ m s'', m < n ∧ s''.le s' ∧ I m s'') Q) s) : AWp P T N (.loop body) Q s := ⟨I, n, s0, h0, h1, h⟩
theorem tq_n {next : LSt → Prop} (h : next s) : thenQ next Q .normal s := h
theorem tq_x {next : LSt → Prop} {i : Nat} (h : Q (.exit i) s) : thenQ next Q (.exit i) s := h
theorem tq_r {next : LSt → Prop} (h : Q .ret s) : thenQ next Q .ret s := h
theorem bq_n {i : Nat} (h : Q .normal s) : blockQ i Q .normal s := h
theorem bq_r {i : Nat} (h : Q .ret s) : blockQ i Q .ret s := h
theorem bq_x {i : Nat} (h : Q .normal s) : blockQ i Q (.exit i) s := by simp [blockQ, h]
theorem bq_o {i j : Nat} (hn : (j == i) = false) (h : Q (.exit j) s) : blockQ i Q (.exit j) s := by
  have : j ≠ i := by simpa using hn
  simp [blockQ, this, h]
theorem fq_n {fn : Func} {R : DV → Prop} {d : DV} (h : resF T s fn.results.toList = some d) (hr : R d) : fnQ T fn R .normal s := ⟨d, h, hr⟩
theorem fq_r {fn : Func} {R : DV → Prop} {d : DV} (h : resF T s fn.results.toList = some d) (hr : R d) : fnQ T fn R .ret s := ⟨d, h, hr⟩
theorem rl_binB {bo : BinOp} {t t2 ty : TypeId} {x y : Operand} {pos : String} {after : Array Edge} {b0 : Bool} (h : opOut T { dst := some d, op := .binOp bo t x y t2, type := ty, pos := pos, after := after, guard := none } (LSt.mk env mem live ep).den = .eff { val := .dat (.bool b0) })
    (hk : ∀ b, b0 = b → RunL P T ops l ⟨(d, .dat (.bool b)) :: env, mem, live, ep⟩ fun s' es => K s' ({ val := .dat (.bool b) } :: es)) : RunL P T ops ({ dst := some d, op := .binOp bo t x y t2, type := ty, pos := pos, after := after, guard := none } :: l) ⟨env, mem, live, ep⟩ K :=
  rl_bool rfl rfl h hk
theorem rl_extB {x : Operand} {i : Nat} {ty : TypeId} {pos : String} {after : Array Edge} {b0 : Bool} (h : opOut T { dst := some d, op := .extract x i, type := ty, pos := pos, after := after, guard := none } (LSt.mk env mem live ep).den = .eff { val := .dat (.bool b0) })
    (hk : ∀ b, b0 = b → RunL P T ops l ⟨(d, .dat (.bool b)) :: env, mem, live, ep⟩ fun s' es => K s' ({ val := .dat (.bool b) } :: es)) : RunL P T ops ({ dst := some d, op := .extract x i, type := ty, pos := pos, after := after, guard := none } :: l) ⟨env, mem, live, ep⟩ K :=
  rl_bool rfl rfl h hk
theorem aw_condN {c : Operand} {x y : Code} {b : Bool} (hc : evalO (LSt.mk env mem live ep).den c = some (.dat (.bool (!b)))) (h1 : b = false → AWp P T N x Q ⟨env, mem, live, ep⟩) (h2 : b = true → AWp P T N y Q ⟨env, mem, live, ep⟩) : AWp P T N (.cond c x y) Q ⟨env, mem, live, ep⟩ :=
  aw_cond hc (fun q => h1 (by cases b; rfl; cases q)) (fun q => h2 (by cases b; cases q; rfl))
def entE : List (Nat × PV) → List (Nat × PV) → Prop
  | [], _ => True
  | (k, v) :: r, e => lookE e k = some v ∧ entE r e
def entM : List (Key × List PV) → List (Key × List PV) → Prop
  | [], _ => True
  | (k, v) :: r, e => lookM e k = some v ∧ entM r e
def entB : List (Key × Bool) → List (Key × Bool) → Prop
  | [], _ => True
  | (k, v) :: r, e => lookB e k = v ∧ entB r e
theorem le_of {env' : List (Nat × PV)} {mem' : List (Key × List PV)} {live' : List (Key × Bool)} {ep' : Nat} (h1 : entE env' env) (h2 : entM mem' mem) (h3 : entB live' live) (h4 : ep ≤ ep') : LSt.le ⟨env', mem', live', ep'⟩ ⟨env, mem, live, ep⟩ := by
  refine ⟨?_, ?_, ?_, h4⟩
  · intro t v hv
    show lookE env t = some v
    have hv : lookE env' t = some v := hv
    clear h2 h3
    induction env' with
    | nil => cases hv
    | cons p r ih =>
      obtain ⟨k, x⟩ := p
      unfold lookE at hv
      split at hv
      · rename_i q; rw [q, h1.1]; exact hv
      · exact ih h1.2 hv hv
  · intro t v hv
    show lookM mem t = some v
    have hv : lookM mem' t = some v := hv
    clear h1 h3
    induction mem' with
    | nil => cases hv
    | cons p r ih =>
      obtain ⟨k, x⟩ := p
      unfold lookM at hv
      split at hv
      · rename_i q; rw [q, h2.1]; exact hv
      · exact ih h2.2 hv hv
  · intro t hv
    show lookB live t = true
    have hv : lookB live' t = true := hv
    clear h1 h2
    induction live' with
    | nil => cases hv
    | cons p r ih =>
      obtain ⟨k, x⟩ := p
      unfold lookB at hv
      split at hv
      · rename_i q; rw [q, h3.1]; exact hv
      · exact ih h3.2 hv hv
theorem aw_loopX {α : Type} {body : Code} (S : α → Nat → LSt) (I : α → Prop) (μ : α → Nat) (x0 : α) (e0 : Nat) (h0 : (S x0 e0).le s) (hI : I x0)
    (h : ∀ x e, I x → AWp P T N body (thenQ (fun s' => ∃ y e', μ y < μ x ∧ (S y e').le s' ∧ I y) Q) (S x e)) : AWp P T N (.loop body) Q s := by
  refine aw_loop (fun n t => ∃ x e, μ x = n ∧ t = S x e ∧ I x) (μ x0) (S x0 e0) h0 ⟨x0, e0, rfl, rfl, hI⟩ ?_
  rintro n t ⟨x, e, rfl, rfl, hx⟩
  have := h x e hx
  have e1 : (fun s' => ∃ y e', μ y < μ x ∧ (S y e').le s' ∧ I y) = fun s' => ∃ m s'', m < μ x ∧ s''.le s' ∧ ∃ y e, μ y = m ∧ s'' = S y e ∧ I y := by
    funext s'
    exact propext ⟨fun ⟨y, e', a, b, c⟩ => ⟨μ y, S y e', a, b, y, e', rfl, rfl, c⟩, fun ⟨m, s'', a, b, y, e', c, d, f⟩ => ⟨y, e', by omega, by rw [← d]; exact b, f⟩⟩
  rw [e1] at this
  exact this
theorem rl_binW {bo : BinOp} {t t2 ty : TypeId} {x y : Operand} {pos : String} {after : Array Edge} {n : Int} (h : opOut T { dst := some d, op := .binOp bo t x y t2, type := ty, pos := pos, after := after, guard := none } (LSt.mk env mem live ep).den = .eff { val := .dat (.int .i64 (IntKind.wrap .i64 n)) })
    (hn : -9223372036854775808 ≤ n ∧ n ≤ 9223372036854775807)
    (hk : RunL P T ops l ⟨(d, .dat (.int .i64 n)) :: env, mem, live, ep⟩ fun s' es => K s' ({ val := .dat (.int .i64 n) } :: es)) : RunL P T ops ({ dst := some d, op := .binOp bo t x y t2, type := ty, pos := pos, after := after, guard := none } :: l) ⟨env, mem, live, ep⟩ K := by
  have hw : IntKind.wrap .i64 n = n := by rw [IntKind.wrap_i64]; omega
  rw [hw] at h
  exact rl_val rfl rfl h hk
theorem maxLen_eq : maxLen = 9223372036854775807 := rfl
theorem rl_idx {z : List UInt8} {n : Int} (hg : o.guard = none) (hd : o.dst = some d) (h : opOut T o (LSt.mk env mem live ep).den = .byte (fun b => 0 ≤ n ∧ z[n.toNat]? = some b) (fun b => { val := .dat (.int .u8 b.toNat) }))
    (hp : 0 ≤ n ∧ n.toNat < z.length)
    (hk : ∀ c : UInt8, z[n.toNat]? = some c → RunL P T ops l ⟨(d, .dat (.int .u8 c.toNat)) :: env, mem, live, ep⟩ fun s' es => K s' ({ val := .dat (.int .u8 c.toNat) } :: es)) : RunL P T ops (o :: l) ⟨env, mem, live, ep⟩ K := by
  have hc : z[n.toNat]? = some z[n.toNat] := by simp [hp.2]
  exact rl_byte _ hg hd h ⟨hp.1, hc⟩ rfl (hk _ hc)
theorem rl_elt {α : Type} {L : List α} {enc : α → List DV} {n : Int} (hg : o.guard = none) (hd : o.dst = some d) (h : opOut T o (LSt.mk env mem live ep).den = .row (fun cs => 0 ≤ n ∧ (L.map enc)[n.toNat]? = some cs) (fun cs => { val := .dat (.ip cs 0) }))
    (hp : 0 ≤ n ∧ n.toNat < L.length)
    (hk : ∀ x : α, L[n.toNat]? = some x → RunL P T ops l ⟨(d, .dat (.ip (enc x) 0)) :: env, mem, live, ep⟩ fun s' es => K s' ({ val := .dat (.ip (enc x) 0) } :: es)) : RunL P T ops (o :: l) ⟨env, mem, live, ep⟩ K := by
  have hc : L[n.toNat]? = some L[n.toNat] := by simp [hp.2]
  exact rl_row (enc L[n.toNat]) hg hd h ⟨hp.1, by rw [List.getElem?_map, hc]; rfl⟩ rfl (hk _ hc)
theorem is_cons (h : RunL P T ops (o :: l) s K) : RunL P T ops (o :: l) s K := h
theorem is_aw {c : Code} (h : AWp P T N c Q s) : AWp P T N c Q s := h
theorem is_g {p : Nat × Bool} {dst : Option Nat} {op : Op} {ty : TypeId} {pos : String} {after : Array Edge} (h : RunL P T ops ({ dst := dst, op := op, type := ty, pos := pos, after := after, guard := some p } :: l) s K) : RunL P T ops ({ dst := dst, op := op, type := ty, pos := pos, after := after, guard := some p } :: l) s K := h
theorem lookM_hd {k : Key} {v : List PV} {r : List (Key × List PV)} : lookM ((k, v) :: r) k = some v := by simp [lookM]
theorem lookM_sl {k k' : Key} {v : List PV} {r : List (Key × List PV)} {x : Option (List PV)} (h : (k'.1 == k.1) = false) (hr : lookM r k' = x) : lookM ((k, v) :: r) k' = x := by
  have : k' ≠ k := fun e => by rw [e] at h; simp at h
  simp [lookM, this, hr]
theorem lookB_hd {k : Key} {v : Bool} {r : List (Key × Bool)} : lookB ((k, v) :: r) k = v := by simp [lookB]
theorem lookB_sl {k k' : Key} {v x : Bool} {r : List (Key × Bool)} (h : (k'.1 == k.1) = false) (hr : lookB r k' = x) : lookB ((k, v) :: r) k' = x := by
  have : k' ≠ k := fun e => by rw [e] at h; simp at h
  simp [lookB, this, hr]
theorem half_eq (n : Nat) (hn : n ≤ 9223372036854775807) : IntKind.i64.wrap ((n : Int).tdiv 2) = ((n / 2 : Nat) : Int) := by
  have : (n : Int).tdiv 2 = ((n / 2 : Nat) : Int) := rfl
  rw [this, IntKind.wrap_i64]
  omega
theorem rl_half {t t2 ty : TypeId} {x y : Operand} {pos : String} {after : Array Edge} {n : Nat} (h : opOut T { dst := some d, op := .binOp .quo t x y t2, type := ty, pos := pos, after := after, guard := none } (LSt.mk env mem live ep).den = .eff { val := .dat (.int .i64 (IntKind.wrap .i64 ((n : Int).tdiv 2))) })
    (hn : n ≤ 9223372036854775807)
    (hk : RunL P T ops l ⟨(d, .dat (.int .i64 (n / 2 : Nat))) :: env, mem, live, ep⟩ fun s' es => K s' ({ val := .dat (.int .i64 (n / 2 : Nat)) } :: es)) : RunL P T ops ({ dst := some d, op := .binOp .quo t x y t2, type := ty, pos := pos, after := after, guard := none } :: l) ⟨env, mem, live, ep⟩ K := by
  rw [half_eq n hn] at h
  exact rl_val rfl rfl h hk
theorem rl_binT {bo : BinOp} {t t2 ty : TypeId} {x y : Operand} {pos : String} {after : Array Edge} (h : opOut T { dst := some d, op := .binOp bo t x y t2, type := ty, pos := pos, after := after, guard := none } (LSt.mk env mem live ep).den = .eff { val := .dat (.bool true) })
    (hk : RunL P T ops l ⟨(d, .dat (.bool true)) :: env, mem, live, ep⟩ fun s' es => K s' ({ val := .dat (.bool true) } :: es)) : RunL P T ops ({ dst := some d, op := .binOp bo t x y t2, type := ty, pos := pos, after := after, guard := none } :: l) ⟨env, mem, live, ep⟩ K :=
  rl_val rfl rfl h hk
theorem rl_binF {bo : BinOp} {t t2 ty : TypeId} {x y : Operand} {pos : String} {after : Array Edge} (h : opOut T { dst := some d, op := .binOp bo t x y t2, type := ty, pos := pos, after := after, guard := none } (LSt.mk env mem live ep).den = .eff { val := .dat (.bool false) })
    (hk : RunL P T ops l ⟨(d, .dat (.bool false)) :: env, mem, live, ep⟩ fun s' es => K s' ({ val := .dat (.bool false) } :: es)) : RunL P T ops ({ dst := some d, op := .binOp bo t x y t2, type := ty, pos := pos, after := after, guard := none } :: l) ⟨env, mem, live, ep⟩ K :=
  rl_val rfl rfl h hk
end
end Go.Proofs.YtbeafnkcimfeeaaGreatDoor.AM
/- The abstract machine (18): the rules, each for one kind of operation. -/
namespace Go.Proofs.YtbeafnkcimfeeaaGreatDoor.AM
set_option linter.unusedVariables false
set_option linter.unusedSimpArgs false
open Go.RowKit
set_option linter.unusedVariables false
section
variable {P : Program} {T : Tab} {N : Nat} {ops : Array Oper} {l : List Oper} {env : List (Nat × PV)} {mem : List (Key × List PV)} {live : List (Key × Bool)} {ep : Nat} {K : LSt → List Eff → Prop} {d : Nat} {ty : TypeId} {pos : String} {after : Array Edge}
theorem mv_val {x : Operand} {v : PV} (h : opOut T { dst := some d, op := .move x, type := ty, pos := pos, after := after, guard := none } (LSt.mk env mem live ep).den = .eff { val := v }) (hk : RunL P T ops l ⟨(d, v) :: env, mem, live, ep⟩ fun s' es => K s' ({ val := v } :: es)) : RunL P T ops ({ dst := some d, op := .move x, type := ty, pos := pos, after := after, guard := none } :: l) ⟨env, mem, live, ep⟩ K := rl_val rfl rfl h hk
theorem as_val {x : Operand} {v : PV} (h : opOut T { dst := some d, op := .assign x, type := ty, pos := pos, after := after, guard := none } (LSt.mk env mem live ep).den = .eff { val := v }) (hk : RunL P T ops l ⟨(d, v) :: env, mem, live, ep⟩ fun s' es => K s' ({ val := v } :: es)) : RunL P T ops ({ dst := some d, op := .assign x, type := ty, pos := pos, after := after, guard := none } :: l) ⟨env, mem, live, ep⟩ K := rl_val rfl rfl h hk
theorem as_new {x : Operand} {sz : Nat} {es1 es0 : List (List DV)} (h : opOut T { dst := some d, op := .assign x, type := ty, pos := pos, after := after, guard := none } (LSt.mk env mem live ep).den = .eff { val := .acc (d, 0, ep) sz es1, nw := [0] }) (hv : es1 = es0) (hk : RunL P T ops l ⟨(d, .acc (d, 0, ep) sz es0) :: env, mem, ((d, 0, ep), true) :: live, ep⟩ fun s' es => K s' ({ val := .acc (d, 0, ep) sz es0, nw := [0] } :: es)) : RunL P T ops ({ dst := some d, op := .assign x, type := ty, pos := pos, after := after, guard := none } :: l) ⟨env, mem, live, ep⟩ K := by subst hv; exact rl_new rfl rfl h hk
theorem pk_twoT {c x y : Operand} {x0 y0 : Option PV} {v : PV} (h : opOut T { dst := some d, op := .pick c x y, type := ty, pos := pos, after := after, guard := none } (LSt.mk env mem live ep).den = .two true x0 y0) (hx : x0 = some v) (hk : RunL P T ops l ⟨(d, v) :: env, mem, live, ep⟩ fun s' es => K s' ({ val := v } :: es)) : RunL P T ops ({ dst := some d, op := .pick c x y, type := ty, pos := pos, after := after, guard := none } :: l) ⟨env, mem, live, ep⟩ K := rl_twoT rfl rfl h hx hk
theorem pk_twoF {c x y : Operand} {x0 y0 : Option PV} {v : PV} (h : opOut T { dst := some d, op := .pick c x y, type := ty, pos := pos, after := after, guard := none } (LSt.mk env mem live ep).den = .two false x0 y0) (hx : y0 = some v) (hk : RunL P T ops l ⟨(d, v) :: env, mem, live, ep⟩ fun s' es => K s' ({ val := v } :: es)) : RunL P T ops ({ dst := some d, op := .pick c x y, type := ty, pos := pos, after := after, guard := none } :: l) ⟨env, mem, live, ep⟩ K := rl_twoF rfl rfl h hx hk
theorem al_alloc {t : TypeId} {cs0 cs : List PV} (h : opOut T { dst := some d, op := .alloc t, type := ty, pos := pos, after := after, guard := none } (LSt.mk env mem live ep).den = .eff { val := .ptr (d, 0, ep) 0, al := [(0, cs0)] }) (hv : cs0 = cs) (hk : RunL P T ops l ⟨(d, .ptr (d, 0, ep) 0) :: env, ((d, 0, ep), cs) :: mem, live, ep⟩ fun s' es => K s' ({ val := .ptr (d, 0, ep) 0, al := [(0, cs)] } :: es)) : RunL P T ops ({ dst := some d, op := .alloc t, type := ty, pos := pos, after := after, guard := none } :: l) ⟨env, mem, live, ep⟩ K := by subst hv; exact rl_alloc rfl rfl h hk
theorem bx_alloc {t : TypeId} {x : Operand} {cs0 cs : List PV} (h : opOut T { dst := some d, op := .box t x, type := ty, pos := pos, after := after, guard := none } (LSt.mk env mem live ep).den = .eff { val := .ptr (d, 0, ep) 0, al := [(0, cs0)] }) (hv : cs0 = cs) (hk : RunL P T ops l ⟨(d, .ptr (d, 0, ep) 0) :: env, ((d, 0, ep), cs) :: mem, live, ep⟩ fun s' es => K s' ({ val := .ptr (d, 0, ep) 0, al := [(0, cs)] } :: es)) : RunL P T ops ({ dst := some d, op := .box t x, type := ty, pos := pos, after := after, guard := none } :: l) ⟨env, mem, live, ep⟩ K := by subst hv; exact rl_alloc rfl rfl h hk
theorem bd_valn {t : TypeId} {parts : Array (Nat × Operand)} {v0 v : PV} (h : opOut T { dst := some d, op := .build t parts, type := ty, pos := pos, after := after, guard := none } (LSt.mk env mem live ep).den = .eff { val := v0 }) (hv : v0 = v) (hk : RunL P T ops l ⟨(d, v) :: env, mem, live, ep⟩ fun s' es => K s' ({ val := v } :: es)) : RunL P T ops ({ dst := some d, op := .build t parts, type := ty, pos := pos, after := after, guard := none } :: l) ⟨env, mem, live, ep⟩ K := by subst hv; exact rl_val rfl rfl h hk
theorem bs_new {t : TypeId} {n : Nat} {parts : Array (Nat × Operand)} {sz : Nat} {es1 es0 : List (List DV)} (h : opOut T { dst := some d, op := .buildSlice t n parts, type := ty, pos := pos, after := after, guard := none } (LSt.mk env mem live ep).den = .eff { val := .acc (d, 0, ep) sz es1, nw := [0] }) (hv : es1 = es0) (hk : RunL P T ops l ⟨(d, .acc (d, 0, ep) sz es0) :: env, mem, ((d, 0, ep), true) :: live, ep⟩ fun s' es => K s' ({ val := .acc (d, 0, ep) sz es0, nw := [0] } :: es)) : RunL P T ops ({ dst := some d, op := .buildSlice t n parts, type := ty, pos := pos, after := after, guard := none } :: l) ⟨env, mem, live, ep⟩ K := by subst hv; exact rl_new rfl rfl h hk
theorem ld_load {t : TypeId} {x : Operand} {k : Key} {f : List PV → Option Eff} {cs : List PV} {v0 v : PV} (h : opOut T { dst := some d, op := .load t x, type := ty, pos := pos, after := after, guard := none } (LSt.mk env mem live ep).den = .box k f) (hm : lookM mem k = some cs) (hf : f cs = some { val := v0 }) (hv : v0 = v) (hk : RunL P T ops l ⟨(d, v) :: env, mem, live, ep⟩ fun s' es => K s' ({ val := v, rd := [k] } :: es)) : RunL P T ops ({ dst := some d, op := .load t x, type := ty, pos := pos, after := after, guard := none } :: l) ⟨env, mem, live, ep⟩ K := by subst hv; exact rl_load rfl rfl h hm hf hk
theorem ld_valn {t : TypeId} {x : Operand} {v0 v : PV} (h : opOut T { dst := some d, op := .load t x, type := ty, pos := pos, after := after, guard := none } (LSt.mk env mem live ep).den = .eff { val := v0 }) (hv : v0 = v) (hk : RunL P T ops l ⟨(d, v) :: env, mem, live, ep⟩ fun s' es => K s' ({ val := v } :: es)) : RunL P T ops ({ dst := some d, op := .load t x, type := ty, pos := pos, after := after, guard := none } :: l) ⟨env, mem, live, ep⟩ K := by subst hv; exact rl_val rfl rfl h hk
theorem ld_at {t : TypeId} {x : Operand} {k : Key} {f : List PV → Option Eff} {cs : List PV} {v : PV} (h : opOut T { dst := some d, op := .load t x, type := ty, pos := pos, after := after, guard := none } (LSt.mk env mem live ep).den = .box k f) (hm : lookM mem k = some cs) (hf : f cs = some { val := v }) (hk : RunL P T ops l ⟨(d, v) :: env, mem, live, ep⟩ fun s' es => K s' ({ val := v, rd := [k] } :: es)) : RunL P T ops ({ dst := some d, op := .load t x, type := ty, pos := pos, after := after, guard := none } :: l) ⟨env, mem, live, ep⟩ K := rl_load rfl rfl h hm hf hk
theorem st_store {t : TypeId} {x y : Operand} {k : Key} {f : List PV → Option Eff} {cs new0 new : List PV} (h : opOut T { dst := none, op := .store t x y, type := ty, pos := pos, after := after, guard := none } (LSt.mk env mem live ep).den = .box k f) (hm : lookM mem k = some cs) (hf : f cs = some { val := unitP, wr := [(k, new0)] }) (hv : new0 = new) (hk : RunL P T ops l ⟨env, (k, new) :: mem, live, ep⟩ fun s' es => K s' ({ val := unitP, wr := [(k, new)], rd := [k] } :: es)) : RunL P T ops ({ dst := none, op := .store t x y, type := ty, pos := pos, after := after, guard := none } :: l) ⟨env, mem, live, ep⟩ K := by subst hv; exact rl_store rfl rfl h hm hf hk
theorem st_sat {t : TypeId} {x y : Operand} {k : Key} {f : List PV → Option Eff} {cs new : List PV} (h : opOut T { dst := none, op := .store t x y, type := ty, pos := pos, after := after, guard := none } (LSt.mk env mem live ep).den = .box k f) (hm : lookM mem k = some cs) (hf : f cs = some { val := unitP, wr := [(k, new)] }) (hk : RunL P T ops l ⟨env, (k, new) :: mem, live, ep⟩ fun s' es => K s' ({ val := unitP, wr := [(k, new)], rd := [k] } :: es)) : RunL P T ops ({ dst := none, op := .store t x y, type := ty, pos := pos, after := after, guard := none } :: l) ⟨env, mem, live, ep⟩ K := rl_store rfl rfl h hm hf hk
theorem bo_val {bo : BinOp} {t t2 : TypeId} {x y : Operand} {v : PV} (h : opOut T { dst := some d, op := .binOp bo t x y t2, type := ty, pos := pos, after := after, guard := none } (LSt.mk env mem live ep).den = .eff { val := v }) (hk : RunL P T ops l ⟨(d, v) :: env, mem, live, ep⟩ fun s' es => K s' ({ val := v } :: es)) : RunL P T ops ({ dst := some d, op := .binOp bo t x y t2, type := ty, pos := pos, after := after, guard := none } :: l) ⟨env, mem, live, ep⟩ K := rl_val rfl rfl h hk
theorem uo_val {u : UnOp} {t : TypeId} {x : Operand} {v : PV} (h : opOut T { dst := some d, op := .unOp u t x, type := ty, pos := pos, after := after, guard := none } (LSt.mk env mem live ep).den = .eff { val := v }) (hk : RunL P T ops l ⟨(d, v) :: env, mem, live, ep⟩ fun s' es => K s' ({ val := v } :: es)) : RunL P T ops ({ dst := some d, op := .unOp u t x, type := ty, pos := pos, after := after, guard := none } :: l) ⟨env, mem, live, ep⟩ K := rl_val rfl rfl h hk
theorem fa_valn {t : TypeId} {x : Operand} {f : Nat} {v0 v : PV} (h : opOut T { dst := some d, op := .fieldAddr t x f, type := ty, pos := pos, after := after, guard := none } (LSt.mk env mem live ep).den = .eff { val := v0 }) (hv : v0 = v) (hk : RunL P T ops l ⟨(d, v) :: env, mem, live, ep⟩ fun s' es => K s' ({ val := v } :: es)) : RunL P T ops ({ dst := some d, op := .fieldAddr t x f, type := ty, pos := pos, after := after, guard := none } :: l) ⟨env, mem, live, ep⟩ K := by subst hv; exact rl_val rfl rfl h hk
theorem fd_valn {t : TypeId} {x : Operand} {f : Nat} {v0 v : PV} (h : opOut T { dst := some d, op := .field t x f, type := ty, pos := pos, after := after, guard := none } (LSt.mk env mem live ep).den = .eff { val := v0 }) (hv : v0 = v) (hk : RunL P T ops l ⟨(d, v) :: env, mem, live, ep⟩ fun s' es => K s' ({ val := v } :: es)) : RunL P T ops ({ dst := some d, op := .field t x f, type := ty, pos := pos, after := after, guard := none } :: l) ⟨env, mem, live, ep⟩ K := by subst hv; exact rl_val rfl rfl h hk
theorem ia_elt {t : TypeId} {x i : Operand} {α : Type} {L : List α} {enc : α → List DV} {n : Int} (h : opOut T { dst := some d, op := .indexAddr t x i, type := ty, pos := pos, after := after, guard := none } (LSt.mk env mem live ep).den = .row (fun cs => 0 ≤ n ∧ (L.map enc)[n.toNat]? = some cs) (fun cs => { val := .dat (.ip cs 0) })) (hp : 0 ≤ n ∧ n.toNat < L.length) (hk : ∀ x : α, L[n.toNat]? = some x → RunL P T ops l ⟨(d, .dat (.ip (enc x) 0)) :: env, mem, live, ep⟩ fun s' es => K s' ({ val := .dat (.ip (enc x) 0) } :: es)) : RunL P T ops ({ dst := some d, op := .indexAddr t x i, type := ty, pos := pos, after := after, guard := none } :: l) ⟨env, mem, live, ep⟩ K := rl_elt rfl rfl h hp hk
theorem ia_boxn {t : TypeId} {x i : Operand} {k : Key} {p : List PV → Prop} {f : List PV → Option Eff} {cs : List PV} {v : PV} (h : opOut T { dst := some d, op := .indexAddr t x i, type := ty, pos := pos, after := after, guard := none } (LSt.mk env mem live ep).den = .boxn k p f) (hm : lookM mem k = some cs) (hf : f cs = some { val := v }) (hp : p cs) (hk : RunL P T ops l ⟨(d, v) :: env, mem, live, ep⟩ fun s' es => K s' ({ val := v, rd := [k] } :: es)) : RunL P T ops ({ dst := some d, op := .indexAddr t x i, type := ty, pos := pos, after := after, guard := none } :: l) ⟨env, mem, live, ep⟩ K := rl_boxn rfl rfl h hm hp hf hk
theorem ix_idx {t : TypeId} {x i : Operand} {z : List UInt8} {n : Int} (h : opOut T { dst := some d, op := .index t x i, type := ty, pos := pos, after := after, guard := none } (LSt.mk env mem live ep).den = .byte (fun b => 0 ≤ n ∧ z[n.toNat]? = some b) (fun b => { val := .dat (.int .u8 b.toNat) })) (hp : 0 ≤ n ∧ n.toNat < z.length) (hk : ∀ c : UInt8, z[n.toNat]? = some c → RunL P T ops l ⟨(d, .dat (.int .u8 c.toNat)) :: env, mem, live, ep⟩ fun s' es => K s' ({ val := .dat (.int .u8 c.toNat) } :: es)) : RunL P T ops ({ dst := some d, op := .index t x i, type := ty, pos := pos, after := after, guard := none } :: l) ⟨env, mem, live, ep⟩ K := rl_idx rfl rfl h hp hk
theorem ex_valn {x : Operand} {i : Nat} {v0 v : PV} (h : opOut T { dst := some d, op := .extract x i, type := ty, pos := pos, after := after, guard := none } (LSt.mk env mem live ep).den = .eff { val := v0 }) (hv : v0 = v) (hk : RunL P T ops l ⟨(d, v) :: env, mem, live, ep⟩ fun s' es => K s' ({ val := v } :: es)) : RunL P T ops ({ dst := some d, op := .extract x i, type := ty, pos := pos, after := after, guard := none } :: l) ⟨env, mem, live, ep⟩ K := by subst hv; exact rl_val rfl rfl h hk
theorem sl_need {t : TypeId} {x : Operand} {lo hi mx : Option Operand} {v0 v : PV} {p : Prop} (h : opOut T { dst := some d, op := .slice t x lo hi mx, type := ty, pos := pos, after := after, guard := none } (LSt.mk env mem live ep).den = .need p { val := v0 }) (hv : v0 = v) (hp : p) (hk : RunL P T ops l ⟨(d, v) :: env, mem, live, ep⟩ fun s' es => K s' ({ val := v } :: es)) : RunL P T ops ({ dst := some d, op := .slice t x lo hi mx, type := ty, pos := pos, after := after, guard := none } :: l) ⟨env, mem, live, ep⟩ K := by subst hv; exact rl_need rfl rfl h hp hk
theorem mi_val {t : TypeId} {x : Operand} {v : PV} (h : opOut T { dst := some d, op := .makeInterface t x, type := ty, pos := pos, after := after, guard := none } (LSt.mk env mem live ep).den = .eff { val := v }) (hk : RunL P T ops l ⟨(d, v) :: env, mem, live, ep⟩ fun s' es => K s' ({ val := v } :: es)) : RunL P T ops ({ dst := some d, op := .makeInterface t x, type := ty, pos := pos, after := after, guard := none } :: l) ⟨env, mem, live, ep⟩ K := rl_val rfl rfl h hk
theorem mi_frz {t : TypeId} {x : Operand} {k : Key} {p : List PV → Prop} {f : List PV → Option Eff} {cs : List PV} {mem1 : List (Key × List PV)} {v : PV} (h : opOut T { dst := some d, op := .makeInterface t x, type := ty, pos := pos, after := after, guard := none } (LSt.mk env mem live ep).den = .boxn k p f) (hm : lookM mem k = some cs) (hf : f cs = some { val := v, rm := [k] }) (hr : delM [k] mem = mem1) (hp : p cs) (hk : RunL P T ops l ⟨(d, v) :: env, mem1, live, ep⟩ fun s' es => K s' ({ val := v, rd := [k], rm := [k] } :: es)) : RunL P T ops ({ dst := some d, op := .makeInterface t x, type := ty, pos := pos, after := after, guard := none } :: l) ⟨env, mem, live, ep⟩ K := rl_frz rfl rfl h hm hp hf hr hk
theorem mf_val {f : Fn} {a b : Array Operand} {v : PV} (h : opOut T { dst := some d, op := .makeFunc f a b, type := ty, pos := pos, after := after, guard := none } (LSt.mk env mem live ep).den = .eff { val := v }) (hk : RunL P T ops l ⟨(d, v) :: env, mem, live, ep⟩ fun s' es => K s' ({ val := v } :: es)) : RunL P T ops ({ dst := some d, op := .makeFunc f a b, type := ty, pos := pos, after := after, guard := none } :: l) ⟨env, mem, live, ep⟩ K := rl_val rfl rfl h hk
theorem bi_gated {b : Builtin} {as : Array Operand} {ts : Array TypeId} {v0 v : PV} {p : Prop} (h : opOut T { dst := some d, op := .call { callee := .builtin b, args := as, argTypes := ts }, type := ty, pos := pos, after := after, guard := none } (LSt.mk env mem live ep).den = .gated p { val := v0 }) (hv : v0 = v) (hk : p → RunL P T ops l ⟨(d, v) :: env, mem, live, ep⟩ fun s' es => K s' ({ val := v } :: es)) : RunL P T ops ({ dst := some d, op := .call { callee := .builtin b, args := as, argTypes := ts }, type := ty, pos := pos, after := after, guard := none } :: l) ⟨env, mem, live, ep⟩ K := by subst hv; exact rl_gated rfl rfl h hk
theorem bi_val {b : Builtin} {as : Array Operand} {ts : Array TypeId} {v : PV} (h : opOut T { dst := some d, op := .call { callee := .builtin b, args := as, argTypes := ts }, type := ty, pos := pos, after := after, guard := none } (LSt.mk env mem live ep).den = .eff { val := v }) (hk : RunL P T ops l ⟨(d, v) :: env, mem, live, ep⟩ fun s' es => K s' ({ val := v } :: es)) : RunL P T ops ({ dst := some d, op := .call { callee := .builtin b, args := as, argTypes := ts }, type := ty, pos := pos, after := after, guard := none } :: l) ⟨env, mem, live, ep⟩ K := rl_val rfl rfl h hk
theorem bi_own {b : Builtin} {as : Array Operand} {ts : Array TypeId} {τ : Key} {p : Prop} {sz : Nat} {es0 : List (List DV)} (h : opOut T { dst := some d, op := .call { callee := .builtin b, args := as, argTypes := ts }, type := ty, pos := pos, after := after, guard := none } (LSt.mk env mem live ep).den = .own τ p { val := .acc (d, 0, ep) sz es0, nw := [0] }) (hl : lookB live τ = true) (hp : p) (hk : RunL P T ops l ⟨(d, .acc (d, 0, ep) sz es0) :: env, mem, ((d, 0, ep), true) :: (τ, false) :: live, ep⟩ fun s' es => K s' ({ val := .acc (d, 0, ep) sz es0, nw := [0], use := [τ] } :: es)) : RunL P T ops ({ dst := some d, op := .call { callee := .builtin b, args := as, argTypes := ts }, type := ty, pos := pos, after := after, guard := none } :: l) ⟨env, mem, live, ep⟩ K := rl_own rfl rfl h hl hp hk
theorem bi_needN {b : Builtin} {as : Array Operand} {ts : Array TypeId} {sz : Nat} {es0 : List (List DV)} {p : Prop} (h : opOut T { dst := some d, op := .call { callee := .builtin b, args := as, argTypes := ts }, type := ty, pos := pos, after := after, guard := none } (LSt.mk env mem live ep).den = .need p { val := .acc (d, 0, ep) sz es0, nw := [0] }) (hp : p) (hk : RunL P T ops l ⟨(d, .acc (d, 0, ep) sz es0) :: env, mem, ((d, 0, ep), true) :: live, ep⟩ fun s' es => K s' ({ val := .acc (d, 0, ep) sz es0, nw := [0] } :: es)) : RunL P T ops ({ dst := some d, op := .call { callee := .builtin b, args := as, argTypes := ts }, type := ty, pos := pos, after := after, guard := none } :: l) ⟨env, mem, live, ep⟩ K := rl_needN rfl rfl h hp hk
theorem bi_load {b : Builtin} {as : Array Operand} {ts : Array TypeId} {k : Key} {f : List PV → Option Eff} {cs : List PV} {v0 v : PV} (h : opOut T { dst := some d, op := .call { callee := .builtin b, args := as, argTypes := ts }, type := ty, pos := pos, after := after, guard := none } (LSt.mk env mem live ep).den = .box k f) (hm : lookM mem k = some cs) (hf : f cs = some { val := v0 }) (hv : v0 = v) (hk : RunL P T ops l ⟨(d, v) :: env, mem, live, ep⟩ fun s' es => K s' ({ val := v, rd := [k] } :: es)) : RunL P T ops ({ dst := some d, op := .call { callee := .builtin b, args := as, argTypes := ts }, type := ty, pos := pos, after := after, guard := none } :: l) ⟨env, mem, live, ep⟩ K := by subst hv; exact rl_load rfl rfl h hm hf hk
theorem ms_needA {t : TypeId} {x y : Operand} {p : Prop} {cs0 cs : List PV} {v : PV} (h : opOut T { dst := some d, op := .makeSlice t x y, type := ty, pos := pos, after := after, guard := none } (LSt.mk env mem live ep).den = .need p { val := v, al := [(0, cs0)] }) (hv : cs0 = cs) (hp : p) (hk : RunL P T ops l ⟨(d, v) :: env, ((d, 0, ep), cs) :: mem, live, ep⟩ fun s' es => K s' ({ val := v, al := [(0, cs)] } :: es)) : RunL P T ops ({ dst := some d, op := .makeSlice t x y, type := ty, pos := pos, after := after, guard := none } :: l) ⟨env, mem, live, ep⟩ K := by subst hv; exact rl_needA rfl rfl h hp hk
theorem mm_val {t : TypeId} {x : Option Operand} {v : PV} (h : opOut T { dst := some d, op := .makeMap t x, type := ty, pos := pos, after := after, guard := none } (LSt.mk env mem live ep).den = .eff { val := v }) (hk : RunL P T ops l ⟨(d, v) :: env, mem, live, ep⟩ fun s' es => K s' ({ val := v } :: es)) : RunL P T ops ({ dst := some d, op := .makeMap t x, type := ty, pos := pos, after := after, guard := none } :: l) ⟨env, mem, live, ep⟩ K := rl_val rfl rfl h hk
theorem nc_val {x : Operand} {v : PV} (h : opOut T { dst := some d, op := .nilCheck x, type := ty, pos := pos, after := after, guard := none } (LSt.mk env mem live ep).den = .eff { val := v }) (hk : RunL P T ops l ⟨(d, v) :: env, mem, live, ep⟩ fun s' es => K s' ({ val := v } :: es)) : RunL P T ops ({ dst := some d, op := .nilCheck x, type := ty, pos := pos, after := after, guard := none } :: l) ⟨env, mem, live, ep⟩ K := rl_val rfl rfl h hk
theorem is_mv {s : LSt} {x : Operand} (h : RunL P T ops ({ dst := some d, op := .move x, type := ty, pos := pos, after := after, guard := none } :: l) s K) : RunL P T ops ({ dst := some d, op := .move x, type := ty, pos := pos, after := after, guard := none } :: l) s K := h
theorem is_as {s : LSt} {x : Operand} (h : RunL P T ops ({ dst := some d, op := .assign x, type := ty, pos := pos, after := after, guard := none } :: l) s K) : RunL P T ops ({ dst := some d, op := .assign x, type := ty, pos := pos, after := after, guard := none } :: l) s K := h
theorem is_pk {s : LSt} {c x y : Operand} (h : RunL P T ops ({ dst := some d, op := .pick c x y, type := ty, pos := pos, after := after, guard := none } :: l) s K) : RunL P T ops ({ dst := some d, op := .pick c x y, type := ty, pos := pos, after := after, guard := none } :: l) s K := h
theorem is_al {s : LSt} {t : TypeId} (h : RunL P T ops ({ dst := some d, op := .alloc t, type := ty, pos := pos, after := after, guard := none } :: l) s K) : RunL P T ops ({ dst := some d, op := .alloc t, type := ty, pos := pos, after := after, guard := none } :: l) s K := h
theorem is_bx {s : LSt} {t : TypeId} {x : Operand} (h : RunL P T ops ({ dst := some d, op := .box t x, type := ty, pos := pos, after := after, guard := none } :: l) s K) : RunL P T ops ({ dst := some d, op := .box t x, type := ty, pos := pos, after := after, guard := none } :: l) s K := h
theorem is_bd {s : LSt} {t : TypeId} {parts : Array (Nat × Operand)} (h : RunL P T ops ({ dst := some d, op := .build t parts, type := ty, pos := pos, after := after, guard := none } :: l) s K) : RunL P T ops ({ dst := some d, op := .build t parts, type := ty, pos := pos, after := after, guard := none } :: l) s K := h
theorem is_bs {s : LSt} {t : TypeId} {n : Nat} {parts : Array (Nat × Operand)} (h : RunL P T ops ({ dst := some d, op := .buildSlice t n parts, type := ty, pos := pos, after := after, guard := none } :: l) s K) : RunL P T ops ({ dst := some d, op := .buildSlice t n parts, type := ty, pos := pos, after := after, guard := none } :: l) s K := h
theorem is_ld {s : LSt} {t : TypeId} {x : Operand} (h : RunL P T ops ({ dst := some d, op := .load t x, type := ty, pos := pos, after := after, guard := none } :: l) s K) : RunL P T ops ({ dst := some d, op := .load t x, type := ty, pos := pos, after := after, guard := none } :: l) s K := h
theorem is_st {s : LSt} {t : TypeId} {x y : Operand} (h : RunL P T ops ({ dst := none, op := .store t x y, type := ty, pos := pos, after := after, guard := none } :: l) s K) : RunL P T ops ({ dst := none, op := .store t x y, type := ty, pos := pos, after := after, guard := none } :: l) s K := h
theorem is_bo {s : LSt} {bo : BinOp} {t t2 : TypeId} {x y : Operand} (h : RunL P T ops ({ dst := some d, op := .binOp bo t x y t2, type := ty, pos := pos, after := after, guard := none } :: l) s K) : RunL P T ops ({ dst := some d, op := .binOp bo t x y t2, type := ty, pos := pos, after := after, guard := none } :: l) s K := h
theorem is_uo {s : LSt} {u : UnOp} {t : TypeId} {x : Operand} (h : RunL P T ops ({ dst := some d, op := .unOp u t x, type := ty, pos := pos, after := after, guard := none } :: l) s K) : RunL P T ops ({ dst := some d, op := .unOp u t x, type := ty, pos := pos, after := after, guard := none } :: l) s K := h
theorem is_fa {s : LSt} {t : TypeId} {x : Operand} {f : Nat} (h : RunL P T ops ({ dst := some d, op := .fieldAddr t x f, type := ty, pos := pos, after := after, guard := none } :: l) s K) : RunL P T ops ({ dst := some d, op := .fieldAddr t x f, type := ty, pos := pos, after := after, guard := none } :: l) s K := h
theorem is_fd {s : LSt} {t : TypeId} {x : Operand} {f : Nat} (h : RunL P T ops ({ dst := some d, op := .field t x f, type := ty, pos := pos, after := after, guard := none } :: l) s K) : RunL P T ops ({ dst := some d, op := .field t x f, type := ty, pos := pos, after := after, guard := none } :: l) s K := h
theorem is_ia {s : LSt} {t : TypeId} {x i : Operand} (h : RunL P T ops ({ dst := some d, op := .indexAddr t x i, type := ty, pos := pos, after := after, guard := none } :: l) s K) : RunL P T ops ({ dst := some d, op := .indexAddr t x i, type := ty, pos := pos, after := after, guard := none } :: l) s K := h
theorem is_ix {s : LSt} {t : TypeId} {x i : Operand} (h : RunL P T ops ({ dst := some d, op := .index t x i, type := ty, pos := pos, after := after, guard := none } :: l) s K) : RunL P T ops ({ dst := some d, op := .index t x i, type := ty, pos := pos, after := after, guard := none } :: l) s K := h
theorem is_ex {s : LSt} {x : Operand} {i : Nat} (h : RunL P T ops ({ dst := some d, op := .extract x i, type := ty, pos := pos, after := after, guard := none } :: l) s K) : RunL P T ops ({ dst := some d, op := .extract x i, type := ty, pos := pos, after := after, guard := none } :: l) s K := h
theorem is_sl {s : LSt} {t : TypeId} {x : Operand} {lo hi mx : Option Operand} (h : RunL P T ops ({ dst := some d, op := .slice t x lo hi mx, type := ty, pos := pos, after := after, guard := none } :: l) s K) : RunL P T ops ({ dst := some d, op := .slice t x lo hi mx, type := ty, pos := pos, after := after, guard := none } :: l) s K := h
theorem is_mi {s : LSt} {t : TypeId} {x : Operand} (h : RunL P T ops ({ dst := some d, op := .makeInterface t x, type := ty, pos := pos, after := after, guard := none } :: l) s K) : RunL P T ops ({ dst := some d, op := .makeInterface t x, type := ty, pos := pos, after := after, guard := none } :: l) s K := h
theorem is_mf {s : LSt} {f : Fn} {a b : Array Operand} (h : RunL P T ops ({ dst := some d, op := .makeFunc f a b, type := ty, pos := pos, after := after, guard := none } :: l) s K) : RunL P T ops ({ dst := some d, op := .makeFunc f a b, type := ty, pos := pos, after := after, guard := none } :: l) s K := h
theorem is_bi {s : LSt} {b : Builtin} {as : Array Operand} {ts : Array TypeId} (h : RunL P T ops ({ dst := some d, op := .call { callee := .builtin b, args := as, argTypes := ts }, type := ty, pos := pos, after := after, guard := none } :: l) s K) : RunL P T ops ({ dst := some d, op := .call { callee := .builtin b, args := as, argTypes := ts }, type := ty, pos := pos, after := after, guard := none } :: l) s K := h
theorem is_mm {s : LSt} {t : TypeId} {x : Option Operand} (h : RunL P T ops ({ dst := some d, op := .makeMap t x, type := ty, pos := pos, after := after, guard := none } :: l) s K) : RunL P T ops ({ dst := some d, op := .makeMap t x, type := ty, pos := pos, after := after, guard := none } :: l) s K := h
theorem is_nc {s : LSt} {x : Operand} (h : RunL P T ops ({ dst := some d, op := .nilCheck x, type := ty, pos := pos, after := after, guard := none } :: l) s K) : RunL P T ops ({ dst := some d, op := .nilCheck x, type := ty, pos := pos, after := after, guard := none } :: l) s K := h
theorem is_cf (g : FuncId) {s : LSt} {as : Array Operand} {ts : Array TypeId} (h : RunL P T ops ({ dst := some d, op := .call { callee := .value (.func g), args := as, argTypes := ts }, type := ty, pos := pos, after := after, guard := none } :: l) s K) : RunL P T ops ({ dst := some d, op := .call { callee := .value (.func g), args := as, argTypes := ts }, type := ty, pos := pos, after := after, guard := none } :: l) s K := h
theorem cf {g : FuncId} {as : Array Operand} {ts : Array TypeId} {args : List PV} {ds : List DV} {r : DV} (hc : CallsD P g ds r) (h : argsP (LSt.mk env mem live ep).den as.toList = some args) (ha : argOk args ds)
    (hk : RunL P T ops l ⟨(d, .dat r) :: env, mem, live, ep⟩ fun s' es => K s' ({ val := .dat r } :: es)) : RunL P T ops ({ dst := some d, op := .call { callee := .value (.func g), args := as, argTypes := ts }, type := ty, pos := pos, after := after, guard := none } :: l) ⟨env, mem, live, ep⟩ K := by
  refine rl_call hc rfl rfl (g := g) (args := args) ?_ ha hk
  simp only [opOut, h, evalO, List.append_nil, List.nil_append]
theorem cfB {g : FuncId} {as : Array Operand} {ts : Array TypeId} {args : List PV} {ds : List DV} {b0 : Bool} (hc : CallsD P g ds (.bool b0)) (h : argsP (LSt.mk env mem live ep).den as.toList = some args) (ha : argOk args ds)
    (hk : ∀ b, b0 = b → RunL P T ops l ⟨(d, .dat (.bool b)) :: env, mem, live, ep⟩ fun s' es => K s' ({ val := .dat (.bool b) } :: es)) : RunL P T ops ({ dst := some d, op := .call { callee := .value (.func g), args := as, argTypes := ts }, type := ty, pos := pos, after := after, guard := none } :: l) ⟨env, mem, live, ep⟩ K :=
  cf hc h ha (hk _ rfl)
end
end Go.Proofs.YtbeafnkcimfeeaaGreatDoor.AM
/- The abstract machine (19): what is data at all is bounded. -/
namespace Go.Proofs.YtbeafnkcimfeeaaGreatDoor.AM
set_option linter.unusedVariables false
set_option linter.unusedSimpArgs false
open Go.RowKit
set_option linter.unusedVariables false
def Bd (d : DV) : Prop := ∃ K v, RepD K d v
theorem Bd.str {s : List UInt8} (h : Bd (.str s)) : s.length ≤ 9223372036854775807 := by
  obtain ⟨K, v, h⟩ := h
  cases h with
  | str _ h => exact h
theorem Bd.lst {sz : Nat} {es : List (List DV)} (h : Bd (.lst sz es)) : es.length ≤ 9223372036854775807 ∧ ∀ e ∈ es, ∀ d ∈ e, Bd d := by
  obtain ⟨K, v, h⟩ := h
  cases h with
  | nils => exact ⟨by simp, by simp⟩
  | emp => exact ⟨by simp, by simp⟩
  | lst _ _ b o cap f h1 h2 hs hk ho hr =>
    refine ⟨Nat.le_trans h1 h2, fun e he d hd => ?_⟩
    obtain ⟨i, hi⟩ := List.getElem?_of_mem he
    obtain ⟨j, hj⟩ := List.getElem?_of_mem hd
    exact ⟨K, _, hr i e hi j d hj⟩
theorem Bd.agg {cs : List DV} (h : Bd (.agg cs)) : ∀ d ∈ cs, Bd d := by
  obtain ⟨K, v, h⟩ := h
  cases h with
  | agg _ vs hl ho hr =>
    intro d hd
    obtain ⟨j, hj⟩ := List.getElem?_of_mem hd
    exact ⟨K, _, hr j d hj⟩
theorem CallsD_bd {P : Program} {g : FuncId} {args : List DV} {r : DV} (he : EnterOk P g) (h : (∀ d ∈ args, Bd d) → CallsD P g args r) : CallsD P g args r := by
  refine ⟨he, fun K w xs hG hK hx => ?_⟩
  refine (h fun d hd => ?_).2 K w xs hG hK hx
  obtain ⟨j, hj⟩ := List.getElem?_of_mem hd
  exact ⟨K, _, hx.2 j d hj⟩
end Go.Proofs.YtbeafnkcimfeeaaGreatDoor.AM
/- The abstract machine (20): calls that change what they are handed by pointers, and hand out what is theirs. -/
namespace Go.Proofs.YtbeafnkcimfeeaaGreatDoor.AM
set_option linter.unusedVariables false
set_option linter.unusedSimpArgs false
open Go.RowKit
set_option linter.unusedVariables false
set_option linter.unusedSimpArgs false
set_option linter.unusedSectionVars false
mutual
def ren (f : Key → Option Key) : PV → PV
  | .dat d => .dat d
  | .acc τ sz es => match f τ with | some k => .acc k sz es | none => .dat (.lst sz es)
  | .row τ sz => match f τ with | some k => .row k sz | none => .any
  | .ptr k off => match f k with | some k' => .ptr k' off | none => .any
  | .clo g fst cap => .clo g (renL f fst) (renL f cap)
  | .mix cs => .mix (renL f cs)
  | .tup cs => .tup (renL f cs)
  | .ifp t v => .ifp t (ren f v)
  | .any => .any
def renL (f : Key → Option Key) : List PV → List PV
  | [] => []
  | v :: r => ren f v :: renL f r
end
mutual
def inP (S L : Key → Bool) : PV → Bool
  | .dat _ => true
  | .acc τ _ _ => L τ
  | .row τ _ => S τ
  | .ptr k _ => S k
  | .clo _ fst cap => inL S L fst && inL S L cap
  | .mix cs => inL S L cs
  | .tup cs => inL S L cs
  | .ifp _ v => inP S L v
  | .any => true
def inL (S L : Key → Bool) : List PV → Bool
  | [] => true
  | v :: r => inP S L v && inL S L r
end
theorem renL_length (f : Key → Option Key) : ∀ l : List PV, (renL f l).length = l.length
  | [] => by simp [renL]
  | v :: r => by simp [renL, renL_length f r]
theorem renL_get (f : Key → Option Key) : ∀ (l : List PV) (j : Nat), (renL f l)[j]? = (l[j]?).map (ren f)
  | [], j => by simp [renL]
  | v :: r, 0 => by simp [renL]
  | v :: r, j + 1 => by simp [renL, renL_get f r]
theorem inL_get {S L : Key → Bool} : ∀ {l : List PV}, inL S L l = true → ∀ {j : Nat} {v : PV}, l[j]? = some v → inP S L v = true
  | [], _, j, v, h => by simp at h
  | x :: r, hl, 0, v, h => by
    simp only [inL, Bool.and_eq_true] at hl
    simp at h; subst h; exact hl.1
  | x :: r, hl, j + 1, v, h => by
    simp only [inL, Bool.and_eq_true] at hl
    exact inL_get hl.2 (by simpa using h)
theorem RepP.ren {c c2 : Cfg} {f : Key → Option Key} (hK : ∀ b o v, c.K b o = some v → c2.K b o = some v) (hM : ∀ k k' b, f k = some k' → c.M k = some b → c2.M k' = some b)
    (hO : ∀ τ k x, f τ = some k → c.O τ = some x → c2.O k = some x) {v : PV} {x : Value} (h : RepP c v x) : RepP c2 (ren f v) x := by
  induction h with
  | dat d x r => rw [AM.ren]; exact .dat d x (r.mono hK)
  | acc τ sz es x e ho r =>
    rw [AM.ren]
    split
    · rename_i k hk; exact .acc k sz es x e (hO _ _ _ hk ho) (r.mono hK)
    · exact .dat _ _ (r.mono hK)
  | row τ sz x e ho h1 =>
    rw [AM.ren]
    split
    · rename_i k hk; exact .row k sz x e (hO _ _ _ hk ho) h1
    · exact .any _ h1
  | ptr k off b hm =>
    rw [AM.ren]
    split
    · rename_i k' hk; exact .ptr k' off b (hM _ _ _ hk hm)
    · exact .any _ rfl
  | clo g fst cap ys xs hm hg hl hh ih1 ih2 =>
    rw [AM.ren]
    refine .clo g _ _ ys xs (by rw [renL_length]; exact hm) (fun j v hj => ?_) (by rw [renL_length]; exact hl) (fun j v hj => ?_)
    · rw [renL_get] at hj
      obtain ⟨v', h1, rfl⟩ := Option.map_eq_some_iff.1 hj
      exact ih1 j v' h1
    · rw [renL_get] at hj
      obtain ⟨v', h1, rfl⟩ := Option.map_eq_some_iff.1 hj
      exact ih2 j v' h1
  | mix cs vs hl ho hh ih =>
    rw [AM.ren]
    refine .mix _ vs (by rw [renL_length]; exact hl) (fun j v hj => ?_) (fun j v hj => ?_)
    · rw [renL_get] at hj
      obtain ⟨v', h1, rfl⟩ := Option.map_eq_some_iff.1 hj
      exact ho j v' h1
    · rw [renL_get] at hj
      obtain ⟨v', h1, rfl⟩ := Option.map_eq_some_iff.1 hj
      exact ih j v' h1
  | tup cs vs hl hh ih =>
    rw [AM.ren]
    refine .tup _ vs (by rw [renL_length]; exact hl) (fun j v hj => ?_)
    rw [renL_get] at hj
    obtain ⟨v', h1, rfl⟩ := Option.map_eq_some_iff.1 hj
    exact ih j v' h1
  | ifp t v x h ih => rw [AM.ren]; exact .ifp t _ x ih
  | any x h => rw [AM.ren]; exact .any x h
theorem RepP.inv {c c0 : Cfg} {S L : Key → Bool} {f : Key → Option Key} {ρ : Key → Key} (hf : ∀ k, S k = true → f k = some (ρ k)) (hg : ∀ k, L k = true → f k = some (ρ k)) (hK : ∀ b o v, c.K b o = some v → c0.K b o = some v) (hM : ∀ k b, S k = true → c.M (ρ k) = some b → c0.M k = some b)
    (hO : ∀ τ x, S τ = true → c.O (ρ τ) = some x → c0.O τ = some x) (hL : ∀ τ x, L τ = true → c.O (ρ τ) = some x → c0.O τ = some x) {u : PV} {x : Value} (h : RepP c u x) : ∀ v, inP S L v = true → AM.ren f v = u → RepP c0 v x := by
  have bad : ∀ {v : PV} {u : PV}, inP S L v = true → AM.ren f v = u → (∃ d, v = .dat d ∧ u = .dat d) ∨ (∃ τ sz es, v = .acc τ sz es ∧ L τ = true ∧ u = .acc (ρ τ) sz es) ∨ (∃ τ sz, v = .row τ sz ∧ S τ = true ∧ u = .row (ρ τ) sz) ∨ (∃ k off, v = .ptr k off ∧ S k = true ∧ u = .ptr (ρ k) off) ∨
      (∃ g fst cap, v = .clo g fst cap ∧ inL S L fst = true ∧ inL S L cap = true ∧ u = .clo g (renL f fst) (renL f cap)) ∨ (∃ cs, v = .mix cs ∧ inL S L cs = true ∧ u = .mix (renL f cs)) ∨ (∃ cs, v = .tup cs ∧ inL S L cs = true ∧ u = .tup (renL f cs)) ∨ (∃ t w, v = .ifp t w ∧ inP S L w = true ∧ u = .ifp t (AM.ren f w)) ∨ (v = .any ∧ u = .any) := by
    intro v u hv e
    cases v with
    | dat d => exact .inl ⟨d, rfl, by rw [← e, AM.ren]⟩
    | acc τ sz es =>
      simp only [inP] at hv
      exact .inr (.inl ⟨τ, sz, es, rfl, hv, by rw [← e, AM.ren, hg _ hv]⟩)
    | row τ sz =>
      simp only [inP] at hv
      exact .inr (.inr (.inl ⟨τ, sz, rfl, hv, by rw [← e, AM.ren, hf _ hv]⟩))
    | ptr k off =>
      simp only [inP] at hv
      exact .inr (.inr (.inr (.inl ⟨k, off, rfl, hv, by rw [← e, AM.ren, hf _ hv]⟩)))
    | clo g fst cap =>
      simp only [inP, Bool.and_eq_true] at hv
      exact .inr (.inr (.inr (.inr (.inl ⟨g, fst, cap, rfl, hv.1, hv.2, by rw [← e, AM.ren]⟩))))
    | mix cs =>
      simp only [inP] at hv
      exact .inr (.inr (.inr (.inr (.inr (.inl ⟨cs, rfl, hv, by rw [← e, AM.ren]⟩)))))
    | tup cs =>
      simp only [inP] at hv
      exact .inr (.inr (.inr (.inr (.inr (.inr (.inl ⟨cs, rfl, hv, by rw [← e, AM.ren]⟩))))))
    | ifp t w =>
      simp only [inP] at hv
      exact .inr (.inr (.inr (.inr (.inr (.inr (.inr (.inl ⟨t, w, rfl, hv, by rw [← e, AM.ren]⟩)))))))
    | any => exact .inr (.inr (.inr (.inr (.inr (.inr (.inr (.inr ⟨rfl, by rw [← e, AM.ren]⟩)))))))
  induction h with
  | dat d x r =>
    intro v hv e
    rcases bad hv e with ⟨d', rfl, q⟩ | ⟨_, _, _, _, _, q⟩ | ⟨_, _, _, _, q⟩ | ⟨_, _, _, _, q⟩ | ⟨_, _, _, _, _, _, q⟩ | ⟨_, _, _, q⟩ | ⟨_, _, _, q⟩ | ⟨_, _, _, _, q⟩ | ⟨_, q⟩ <;> cases q
    exact .dat d x (r.mono hK)
  | acc τ sz es x e' ho r =>
    intro v hv e
    rcases bad hv e with ⟨d', _, q⟩ | ⟨_, _, _, rfl, hs, q⟩ | ⟨_, _, _, _, q⟩ | ⟨_, _, _, _, q⟩ | ⟨_, _, _, _, _, _, q⟩ | ⟨_, _, _, q⟩ | ⟨_, _, _, q⟩ | ⟨_, _, _, _, q⟩ | ⟨_, q⟩ <;> cases q
    exact .acc _ _ _ x _ (hL _ _ hs ho) (r.mono hK)
  | row τ sz x e' ho h1 =>
    intro v hv e
    rcases bad hv e with ⟨d', _, q⟩ | ⟨_, _, _, _, _, q⟩ | ⟨_, _, rfl, hs, q⟩ | ⟨_, _, _, _, q⟩ | ⟨_, _, _, _, _, _, q⟩ | ⟨_, _, _, q⟩ | ⟨_, _, _, q⟩ | ⟨_, _, _, _, q⟩ | ⟨_, q⟩ <;> cases q
    exact .row _ _ x _ (hO _ _ hs ho) h1
  | ptr k off b hm =>
    intro v hv e
    rcases bad hv e with ⟨d', _, q⟩ | ⟨_, _, _, _, _, q⟩ | ⟨_, _, _, _, q⟩ | ⟨_, _, rfl, hs, q⟩ | ⟨_, _, _, _, _, _, q⟩ | ⟨_, _, _, q⟩ | ⟨_, _, _, q⟩ | ⟨_, _, _, _, q⟩ | ⟨_, q⟩ <;> cases q
    exact .ptr _ _ b (hM _ _ hs hm)
  | clo g fst cap ys xs hm hg' hl hh ih1 ih2 =>
    intro v hv e
    rcases bad hv e with ⟨d', _, q⟩ | ⟨_, _, _, _, _, q⟩ | ⟨_, _, _, _, q⟩ | ⟨_, _, _, _, q⟩ | ⟨_, fst', cap', rfl, a1, a2, q⟩ | ⟨_, _, _, q⟩ | ⟨_, _, _, q⟩ | ⟨_, _, _, _, q⟩ | ⟨_, q⟩ <;> cases q
    refine .clo g _ _ ys xs (by rw [hm, renL_length]) (fun j v hj => ?_) (by rw [hl, renL_length]) (fun j v hj => ?_)
    · exact ih1 j (AM.ren f v) (by rw [renL_get, hj]; rfl) v (inL_get a1 hj) rfl
    · exact ih2 j (AM.ren f v) (by rw [renL_get, hj]; rfl) v (inL_get a2 hj) rfl
  | mix cs vs hl ho hh ih =>
    intro v hv e
    rcases bad hv e with ⟨d', _, q⟩ | ⟨_, _, _, _, _, q⟩ | ⟨_, _, _, _, q⟩ | ⟨_, _, _, _, q⟩ | ⟨_, _, _, _, _, _, q⟩ | ⟨_, rfl, a1, q⟩ | ⟨_, _, _, q⟩ | ⟨_, _, _, _, q⟩ | ⟨_, q⟩ <;> cases q
    refine .mix _ vs (by rw [hl, renL_length]) (fun j v hj => ?_) (fun j v hj => ?_)
    · exact ho j (AM.ren f v) (by rw [renL_get, hj]; rfl)
    · exact ih j (AM.ren f v) (by rw [renL_get, hj]; rfl) v (inL_get a1 hj) rfl
  | tup cs vs hl hh ih =>
    intro v hv e
    rcases bad hv e with ⟨d', _, q⟩ | ⟨_, _, _, _, _, q⟩ | ⟨_, _, _, _, q⟩ | ⟨_, _, _, _, q⟩ | ⟨_, _, _, _, _, _, q⟩ | ⟨_, _, _, q⟩ | ⟨_, rfl, a1, q⟩ | ⟨_, _, _, _, q⟩ | ⟨_, q⟩ <;> cases q
    refine .tup _ vs (by rw [hl, renL_length]) (fun j v hj => ?_)
    exact ih j (AM.ren f v) (by rw [renL_get, hj]; rfl) v (inL_get a1 hj) rfl
  | ifp t u x h ih =>
    intro v hv e
    rcases bad hv e with ⟨d', _, q⟩ | ⟨_, _, _, _, _, q⟩ | ⟨_, _, _, _, q⟩ | ⟨_, _, _, _, q⟩ | ⟨_, _, _, _, _, _, q⟩ | ⟨_, _, _, q⟩ | ⟨_, _, _, q⟩ | ⟨_, _, rfl, a1, q⟩ | ⟨_, q⟩ <;> cases q
    exact .ifp t _ x (ih _ a1 rfl)
  | any x h =>
    intro v hv e
    rcases bad hv e with ⟨d', _, q⟩ | ⟨_, _, _, _, _, q⟩ | ⟨_, _, _, _, q⟩ | ⟨_, _, _, _, q⟩ | ⟨_, _, _, _, _, _, q⟩ | ⟨_, _, _, q⟩ | ⟨_, _, _, q⟩ | ⟨_, _, _, _, q⟩ | ⟨rfl, q⟩ <;> cases q
    exact .any x h
def initP : Nat → List PV → List (Nat × PV)
  | _, [] => []
  | k, d :: r => (k, d) :: initP (k + 1) r
theorem lookE_initP : ∀ (args : List PV) (k t : Nat) (v : PV), lookE (initP k args) t = some v → k ≤ t ∧ args[t - k]? = some v
  | [], _, _, _, h => by simp [initP, lookE] at h
  | d :: r, k, t, v, h => by
    simp only [initP, lookE] at h
    split at h
    · rename_i q
      subst q
      exact ⟨Nat.le_refl _, by simpa using h⟩
    · rename_i q
      obtain ⟨h1, h2⟩ := lookE_initP r (k + 1) t v h
      refine ⟨by omega, ?_⟩
      rw [show t - k = (t - (k + 1)) + 1 by omega, List.getElem?_cons_succ]
      exact h2
theorem wrMem_missK : ∀ (l : List (Key × List PV)) (m : Key → Option (List PV)) (k : Key), (∀ p ∈ l, p.1 ≠ k) → wrMem l m k = m k
  | [], _, _, _ => rfl
  | (k0, cs) :: r, m, k, h => by
    rw [wrMem, wrMem_missK r _ k (fun p hp => h p (by simp [hp]))]
    exact upd_ne _ _ (fun e => h (k0, cs) (by simp) e.symm)
theorem wrMem_hit : ∀ (l : List (Key × List PV)) (m : Key → Option (List PV)) (k : Key) (cs : List PV), wrMem l m k = some cs → (∃ p ∈ l, p.1 = k) → (k, cs) ∈ l
  | [], _, _, _, _, h => by simp at h
  | (k0, c0) :: r, m, k, cs, h, hk => by
    rw [wrMem] at h
    by_cases q : ∃ p ∈ r, p.1 = k
    · exact List.mem_cons_of_mem _ (wrMem_hit r _ k cs h q)
    · rw [wrMem_missK r _ k (fun p hp e => q ⟨p, hp, e⟩)] at h
      obtain ⟨p, hp, e⟩ := hk
      rcases List.mem_cons.1 hp with rfl | hp
      · have e : k0 = k := e
        subst e
        rw [upd_same] at h
        simp at h; subst h; exact List.mem_cons_self
      · exact absurd ⟨p, hp, e⟩ q
theorem setLive_eqK (v : Bool) : ∀ (l : List Key) (m : Key → Bool) (k : Key), setLive v l m k = if k ∈ l then v else m k := fun l m k => setLive_eq v l m k
theorem lookM_mem : ∀ {l : List (Key × List PV)} {k : Key} {cs : List PV}, lookM l k = some cs → (k, cs) ∈ l
  | [], _, _, h => by cases h
  | (k0, c0) :: r, k, cs, h => by
    unfold lookM at h
    split at h
    · rename_i q; subst q; simp at h; subst h; exact List.mem_cons_self
    · exact List.mem_cons_of_mem _ (lookM_mem h)
theorem lookB_all {lv : List Key} {k : Key} (h : lookB (lv.map fun τ => (τ, true)) k = true) : k ∈ lv := by
  induction lv with
  | nil => cases h
  | cons a r ih =>
    simp only [List.map_cons, lookB] at h
    split at h
    · rename_i q; subst q; exact List.mem_cons_self
    · exact List.mem_cons_of_mem _ (ih h)
def fout (d ep : Nat) : List (Key × Nat) → Key → Option Key
  | [], _ => none
  | (τ, i) :: r, k => if k = τ then some (d, i, ep) else fout d ep r k
theorem fout_mem {d ep : Nat} : ∀ {l : List (Key × Nat)} {k k' : Key}, fout d ep l k = some k' → ∃ i, (k, i) ∈ l ∧ k' = (d, i, ep)
  | [], _, _, h => by cases h
  | (τ, i) :: r, k, k', h => by
    unfold fout at h
    split at h
    · rename_i q; subst q; exact ⟨i, by simp, (Option.some.inj h).symm⟩
    · obtain ⟨i', h1, h2⟩ := fout_mem h; exact ⟨i', by simp [h1], h2⟩
def kout (ρ : Key → Key) : List Key → (Key → Option Key) → Key → Option Key
  | [], f, k => f k
  | a :: r, f, k => if k = a then some (ρ a) else kout ρ r f k
theorem kout_mem {ρ : Key → Key} {f : Key → Option Key} : ∀ {l : List Key} {k k' : Key}, kout ρ l f k = some k' → (k ∈ l ∧ k' = ρ k) ∨ f k = some k'
  | [], _, _, h => .inr h
  | a :: r, k, k', h => by
    unfold kout at h
    split at h
    · rename_i q; subst q; exact .inl ⟨by simp, (Option.some.inj h).symm⟩
    · rcases kout_mem h with ⟨h1, h2⟩ | h1
      · exact .inl ⟨by simp [h1], h2⟩
      · exact .inr h1
theorem kout_in {ρ : Key → Key} {f : Key → Option Key} : ∀ {l : List Key} {k : Key}, k ∈ l → kout ρ l f k = some (ρ k)
  | [], _, h => by simp at h
  | a :: r, k, h => by
    unfold kout
    split
    · rename_i q; subst q; rfl
    · rename_i q
      rcases List.mem_cons.1 h with h | h
      · exact absurd h q
      · exact kout_in h
def wrOK (ρ : Key → Key) (φ : Key → Option Key) (m : List (Key × List PV)) : List Key → List (Key × List PV) → Prop
  | [], [] => True
  | k :: ks, (k', cs') :: r => k' = ρ k ∧ (∃ cs, lookM m k = some cs ∧ renL φ cs = cs') ∧ wrOK ρ φ m ks r
  | _, _ => False
def alOK (φ : Key → Option Key) (m : List (Key × List PV)) : List (Key × Nat) → List (Nat × List PV) → Prop
  | [], [] => True
  | (k, i) :: ks, (i', cs') :: r => i' = i ∧ (∃ cs, lookM m k = some cs ∧ renL φ cs = cs') ∧ alOK φ m ks r
  | _, _ => False
def lvOK (lv : List (Key × Bool)) : List (Key × Nat) → Prop
  | [] => True
  | (k, _) :: r => lookB lv k = true ∧ lvOK lv r
def fnE0 (T : Tab) (fn : Func) (d ep : Nat) (ρ : Key → Key) (kept : List Key) (e : Eff) (s : LSt) : Prop :=
  ∃ (r : PV) (nb na : List (Key × Nat)), ((∃ dv, resF T s fn.results.toList = some dv ∧ r = .dat dv) ∨ resP T s fn.results.toList = some r) ∧
    ren (kout ρ kept (fout d ep (nb ++ na))) r = e.val ∧ wrOK ρ (kout ρ kept (fout d ep (nb ++ na))) s.mem kept e.wr ∧ alOK (kout ρ kept (fout d ep (nb ++ na))) s.mem nb e.al ∧
    na.map (·.2) = e.nw ∧ lvOK s.live na ∧ ((nb ++ na).map (·.1)).Nodup ∧ ((nb ++ na).map (·.2)).Nodup ∧ ∀ k ∈ kept, k ∉ (nb ++ na).map (·.1)
def fnE (T : Tab) (fn : Func) (d ep : Nat) (ρ : Key → Key) (kept : List Key) (e : Eff) (s : LSt) : Prop := ∃ s1, Upd s s1 ∧ fnE0 T fn d ep ρ kept e s1
def fnEQ (T : Tab) (fn : Func) (d ep : Nat) (ρ : Key → Key) (kept : List Key) (e : Eff) : Exit → LSt → Prop
  | .normal, s => fnE T fn d ep ρ kept e s
  | .ret, s => fnE T fn d ep ρ kept e s
  | _, _ => False
theorem wrOK_mem {ρ : Key → Key} {φ : Key → Option Key} {m : List (Key × List PV)} : ∀ {ks : List Key} {wr : List (Key × List PV)}, wrOK ρ φ m ks wr →
    (∀ p ∈ wr, ∃ k ∈ ks, p.1 = ρ k ∧ ∃ cs, lookM m k = some cs ∧ p.2 = renL φ cs) ∧ ∀ k ∈ ks, ∃ p ∈ wr, p.1 = ρ k
  | [], [], _ => ⟨by simp, by simp⟩
  | k :: ks, (k', cs') :: r, h => by
    obtain ⟨h1, ⟨cs, h2, h3⟩, h4⟩ := h
    obtain ⟨g1, g2⟩ := wrOK_mem h4
    refine ⟨fun p hp => ?_, fun q hq => ?_⟩
    · rcases List.mem_cons.1 hp with rfl | hp
      · exact ⟨k, by simp, h1, cs, h2, h3.symm⟩
      · obtain ⟨k2, a, b⟩ := g1 p hp
        exact ⟨k2, by simp [a], b⟩
    · rcases List.mem_cons.1 hq with rfl | hq
      · exact ⟨_, List.mem_cons_self, h1⟩
      · obtain ⟨p, a, b⟩ := g2 q hq
        exact ⟨p, by simp [a], b⟩
  | [], _ :: _, h => h.elim
  | _ :: _, [], h => h.elim
theorem alOK_mem {φ : Key → Option Key} {m : List (Key × List PV)} : ∀ {nb : List (Key × Nat)} {al : List (Nat × List PV)}, alOK φ m nb al →
    (∀ p ∈ al, ∃ k, (k, p.1) ∈ nb ∧ ∃ cs, lookM m k = some cs ∧ p.2 = renL φ cs) ∧ ∀ q ∈ nb, ∃ p ∈ al, p.1 = q.2
  | [], [], _ => ⟨by simp, by simp⟩
  | (k, i) :: nb, (i', cs') :: r, h => by
    obtain ⟨h1, ⟨cs, h2, h3⟩, h4⟩ := h
    obtain ⟨g1, g2⟩ := alOK_mem h4
    refine ⟨fun p hp => ?_, fun q hq => ?_⟩
    · rcases List.mem_cons.1 hp with rfl | hp
      · exact ⟨k, by simp [h1], cs, h2, h3.symm⟩
      · obtain ⟨k2, a, b⟩ := g1 p hp
        exact ⟨k2, by simp [a], b⟩
    · rcases List.mem_cons.1 hq with rfl | hq
      · exact ⟨_, List.mem_cons_self, h1⟩
      · obtain ⟨p, a, b⟩ := g2 q hq
        exact ⟨p, by simp [a], b⟩
  | [], _ :: _, h => h.elim
  | _ :: _, [], h => h.elim
theorem lvOK_mem {lv : List (Key × Bool)} : ∀ {na : List (Key × Nat)}, lvOK lv na → ∀ p ∈ na, lookB lv p.1 = true
  | [], _, p, hp => by simp at hp
  | (k, i) :: r, h, p, hp => by
    rcases List.mem_cons.1 hp with rfl | hp
    · exact h.1
    · exact lvOK_mem h.2 p hp
theorem nodup_fst {l : List (Key × Nat)} (h : (l.map (·.1)).Nodup) {p q : Key × Nat} (hp : p ∈ l) (hq : q ∈ l) (e : p.1 = q.1) : p = q := by
  induction l with
  | nil => simp at hp
  | cons a r ih =>
    simp only [List.map_cons, List.nodup_cons] at h
    rcases List.mem_cons.1 hp with h1 | h1 <;> rcases List.mem_cons.1 hq with h2 | h2
    · rw [h1, h2]
    · exact absurd (by rw [← h1, e]; exact List.mem_map_of_mem h2) h.1
    · exact absurd (by rw [← h2, ← e]; exact List.mem_map_of_mem h1) h.1
    · exact ih h.2 h1 h2
theorem nodup_snd {l : List (Key × Nat)} (h : (l.map (·.2)).Nodup) {p q : Key × Nat} (hp : p ∈ l) (hq : q ∈ l) (e : p.2 = q.2) : p = q := by
  induction l with
  | nil => simp at hp
  | cons a r ih =>
    simp only [List.map_cons, List.nodup_cons] at h
    rcases List.mem_cons.1 hp with h1 | h1 <;> rcases List.mem_cons.1 hq with h2 | h2
    · rw [h1, h2]
    · exact absurd (by rw [← h1, e]; exact List.mem_map_of_mem h2) h.1
    · exact absurd (by rw [← h2, ← e]; exact List.mem_map_of_mem h1) h.1
    · exact ih h.2 h1 h2
section
variable {P : Program} {T : Tab}
def atNew {α : Type} (d ep : Nat) (l : List (Key × Nat)) (f g : Key → α) (k : Key) : α := match l.find? (fun p => (d, p.2, ep) == k) with | some p => f p.1 | none => g k
theorem atNew_hit {α : Type} {d ep : Nat} {l : List (Key × Nat)} {f g : Key → α} (hn : (l.map (·.2)).Nodup) {p : Key × Nat} (hp : p ∈ l) : atNew d ep l f g (d, p.2, ep) = f p.1 := by
  unfold atNew
  have : l.find? (fun q => ((d, q.2, ep) : Key) == (d, p.2, ep)) = some p := by
    induction l with
    | nil => simp at hp
    | cons q r ih =>
      rw [List.find?_cons]
      by_cases e : q.2 = p.2
      · have : q = p := nodup_snd hn (by simp) hp e
        subst this; simp
      · have : (((d, q.2, ep) : Key) == (d, p.2, ep)) = false := by simp [e]
        rw [this]
        rcases List.mem_cons.1 hp with rfl | hp
        · exact absurd rfl e
        · simp only [List.map_cons, List.nodup_cons] at hn
          exact ih hn.2 hp
  rw [this]
theorem atNew_miss {α : Type} {d ep : Nat} {l : List (Key × Nat)} {f g : Key → α} {k : Key} (hk : ∀ p ∈ l, (d, p.2, ep) ≠ k) : atNew d ep l f g k = g k := by
  unfold atNew
  have : l.find? (fun q => ((d, q.2, ep) : Key) == k) = none := by
    rw [List.find?_eq_none]
    intro p hp
    have := hk p hp
    simpa using this
  rw [this]
set_option maxHeartbeats 1000000 in
theorem CallE_of (hT : ∀ t i, T t = some i → i.Good P t) (hm : P.follows .mixedOrders = true) {g : FuncId} {fn : Func} {code : Code} {args args0 : List PV} {rdm mem0 : List (Key × List PV)} {lv0 kept drop : List Key} {ρ : Key → Key} {d ep : Nat} {e : Eff}
    (hf : P.funcs[g]? = some fn) (hb : fn.body = some code) (he : EnterOk P g) (hn : args0.length ≤ fn.ntmps)
    (hinj : ∀ k ∈ mem0.map (·.1) ++ lv0, ∀ k' ∈ mem0.map (·.1) ++ lv0, ρ k = ρ k' → k = k') (hep : ∀ k ∈ mem0.map (·.1) ++ lv0, k.2.2 = 0)
    (hkd : ∀ k, k ∈ mem0.map (·.1) ↔ k ∈ kept ∨ k ∈ drop)
    (hA : renL (kout ρ (mem0.map (·.1) ++ lv0) fun _ => none) args0 = args) (hR : mem0.map (fun p => (ρ p.1, renL (kout ρ (mem0.map (·.1) ++ lv0) fun _ => none) p.2)) = rdm)
    (hinA : inL (fun k => (mem0.map (·.1)).contains k) (fun k => lv0.contains k) args0 = true) (hinM : (mem0.all fun p => inL (fun k => (mem0.map (·.1)).contains k) (fun k => lv0.contains k) p.2) = true)
    (hrd : e.rd = rdm.map (·.1)) (huse : e.use = lv0.map ρ) (hrm : e.rm = drop.map ρ)
    (h : AWp P T fn.ntmps code (fnEQ T fn d ep ρ kept e) ⟨initP 0 args0, mem0, lv0.map (fun τ => (τ, true)), 0⟩) :
    CallE P g args rdm d ep e := by
  refine ⟨he, hrd, ?_⟩
  intro σ w c xs hσ hrd' huse' hs hfr hx
  refine calls_of_wp hf hb ?_
  let nm := mem0.map (·.1) ++ lv0
  let S : Key → Bool := fun k => (mem0.map (·.1)).contains k
  let L : Key → Bool := fun k => lv0.contains k
  have hS : ∀ {k}, S k = true ↔ k ∈ mem0.map (·.1) := fun {k} => List.contains_iff_mem
  have hL : ∀ {k}, L k = true ↔ k ∈ lv0 := fun {k} => List.contains_iff_mem
  have hnmM : ∀ {k}, k ∈ mem0.map (·.1) → k ∈ nm := fun {k} hk => List.mem_append_left _ hk
  have hnmL : ∀ {k}, k ∈ lv0 → k ∈ nm := fun {k} hk => List.mem_append_right _ hk
  let fin : Key → Option Key := kout ρ nm fun _ => none
  have hfin : ∀ k, S k = true → fin k = some (ρ k) := fun k hk => kout_in (hnmM (hS.1 hk))
  have hfinL : ∀ k, L k = true → fin k = some (ρ k) := fun k hk => kout_in (hnmL (hL.1 hk))
  have hinM' : ∀ {k cs}, (k, cs) ∈ mem0 → inL S L cs = true := fun {k cs} hk => List.all_eq_true.1 hinM (k, cs) hk
  have hmem0 : ∀ {k cs}, (k, cs) ∈ mem0 → σ.mem (ρ k) = some (renL fin cs) := by
    intro k cs hk
    exact hrd' (ρ k, renL fin cs) (by rw [← hR]; exact List.mem_map.2 ⟨(k, cs), hk, rfl⟩)
  have hkm : ∀ {k}, k ∈ mem0.map (·.1) → ∃ cs, (k, cs) ∈ mem0 := by
    intro k hk
    obtain ⟨⟨k', cs⟩, h1, rfl⟩ := List.mem_map.1 hk
    exact ⟨cs, h1⟩
  have hlive0 : ∀ {τ}, τ ∈ lv0 → σ.live (ρ τ) = true := fun {τ} hτ => huse' _ (by rw [huse]; exact List.mem_map_of_mem hτ)
  let c0 : Cfg := { K := c.K, M := fun k => if k ∈ mem0.map (·.1) then c.M (ρ k) else none, O := fun k => if k ∈ nm then c.O (ρ k) else none }
  have c0M : ∀ k b, c0.M k = some b ↔ k ∈ mem0.map (·.1) ∧ c.M (ρ k) = some b := by
    intro k b
    show (if k ∈ mem0.map (·.1) then c.M (ρ k) else none) = some b ↔ _
    by_cases q : k ∈ mem0.map (·.1)
    · rw [if_pos q]; exact ⟨fun z => ⟨q, z⟩, fun z => z.2⟩
    · rw [if_neg q]; exact ⟨fun z => (by cases z), fun z => absurd z.1 q⟩
  have c0O : ∀ k x, c0.O k = some x ↔ k ∈ nm ∧ c.O (ρ k) = some x := by
    intro k x
    show (if k ∈ nm then c.O (ρ k) else none) = some x ↔ _
    by_cases q : k ∈ nm
    · rw [if_pos q]; exact ⟨fun z => ⟨q, z⟩, fun z => z.2⟩
    · rw [if_neg q]; exact ⟨fun z => (by cases z), fun z => absurd z.1 q⟩
  have c0On : ∀ {k}, k ∈ nm → c0.O k = c.O (ρ k) := fun {k} hk => if_pos hk
  have c0Mn : ∀ {k}, k ∈ mem0.map (·.1) → c0.M k = c.M (ρ k) := fun {k} hk => if_pos hk
  let fp : Nat → Prop := fun b => (∃ k ∈ mem0.map (·.1), c.M (ρ k) = some b) ∨ ∃ τ ∈ lv0, ∃ x, c.O (ρ τ) = some x ∧ x.1.ownBlock = some b
  have hin : ∀ {v : PV} {x : Value}, RepP c (ren fin v) x → inP S L v = true → RepP c0 v x := by
    intro v x hv hp
    exact RepP.inv (c := c) (c0 := c0) (S := S) (L := L) (f := fin) (ρ := ρ) hfin hfinL (fun _ _ _ q => q) (fun k b hk hb => (c0M k b).2 ⟨hS.1 hk, hb⟩) (fun τ y hk hy => (c0O τ y).2 ⟨hnmM (hS.1 hk), hy⟩) (fun τ y hk hy => (c0O τ y).2 ⟨hnmL (hL.1 hk), hy⟩) hv v hp rfl
  have hcells : ∀ {cs : List PV} {f : Nat → Option Value}, CellsR c (renL fin cs) f → inL S L cs = true → CellsR c0 cs f := by
    intro cs f hc hi j v hj
    obtain ⟨x, h1, h2, h3⟩ := hc j (ren fin v) (by rw [renL_get, hj]; rfl)
    exact ⟨x, h1, h2, hin h3 (inL_get hi hj)⟩
  have hbox0 : ∀ {k cs}, (k, cs) ∈ mem0 → BoxAt w c0 k cs := by
    intro k cs hk
    have hkk : k ∈ mem0.map (·.1) := List.mem_map_of_mem hk
    rcases hs.box _ _ (hmem0 hk) with ⟨h0, b, ty, arr, h1, h2, h3, h4⟩ | ⟨x, e', sz, n, ys, h1, h2, h3, h4, h5⟩
    · exact .inl ⟨by rw [c0On (hnmM hkk)]; exact h0, b, ty, arr, by rw [c0Mn hkk]; exact h1, h2, by rw [← renL_length fin]; exact h3, hcells h4 (hinM' hk)⟩
    · exact .inr ⟨x, e', sz, n, ys, by rw [c0On (hnmM hkk)]; exact h1, h2, by rw [c0Mn hkk]; exact h3, by rw [← renL_length fin]; exact h4, hcells h5 (hinM' hk)⟩
  have hs0 : HS (LSt.mk (initP 0 args0) mem0 (lv0.map (fun τ => (τ, true))) 0).den w c0 := by
    refine ⟨hs.kin, fun k cs hk => hbox0 (lookM_mem (show lookM _ k = some cs from hk)), fun k b hk => hs.mlt _ b ((c0M k b).1 hk).2, fun k cs b hk hb o => ?_, fun k k' cs cs' b hk hk' hb hb' => ?_, fun τ ht => ?_, fun τ τ' x x' g h1 h2 h3 h4 h5 h6 => ?_, hs.gk⟩
    · exact hs.mblk _ _ b (hmem0 (lookM_mem (show lookM _ k = some cs from hk))) ((c0M k b).1 hb).2 o
    · have m1 := lookM_mem (show lookM _ k = some cs from hk)
      have m2 := lookM_mem (show lookM _ k' = some cs' from hk')
      exact hinj k (hnmM (List.mem_map_of_mem m1)) k' (hnmM (List.mem_map_of_mem m2)) (hs.minj _ _ _ _ b (hmem0 m1) (hmem0 m2) ((c0M k b).1 hb).2 ((c0M k' b).1 hb').2)
    · have ht := lookB_all (show lookB _ τ = true from ht)
      obtain ⟨x, e', sz, n, ys, h1, h2, h3⟩ := hs.own (ρ τ) (hlive0 ht)
      exact ⟨x, e', sz, n, ys, (c0O _ _).2 ⟨hnmL ht, h1⟩, h2, fun g hg => ⟨(h3 g hg).1, fun k cs hk hb => (h3 g hg).2 (ρ k) _ (hmem0 (lookM_mem (show lookM _ k = some cs from hk))) ((c0M k g).1 hb).2⟩⟩
    · have t1 := lookB_all (show lookB _ τ = true from h1)
      have t2 := lookB_all (show lookB _ τ' = true from h2)
      exact hinj τ (hnmL t1) τ' (hnmL t2) (hs.odis _ _ x x' g (hlive0 t1) (hlive0 t2) ((c0O _ _).1 h3).2 ((c0O _ _).1 h4).2 h5 h6)
  have hfpO : ∀ τ x, c0.O τ = some x → ∀ g, x.1.ownBlock = some g → fp g := by
    intro τ x hx g hg
    obtain ⟨h1, h2⟩ := (c0O τ x).1 hx
    rcases List.mem_append.1 h1 with h1 | h1
    · obtain ⟨cs, h3⟩ := hkm h1
      rcases hs.box _ _ (hmem0 h3) with ⟨h0, _⟩ | ⟨x', e', sz, n, ys, q1, q2, q3, _⟩
      · rw [h2] at h0; cases h0
      · rw [h2] at q1; cases q1
        exact .inl ⟨τ, h1, q3.trans hg⟩
    · exact .inr ⟨τ, h1, x, h2, hg⟩
  have hsim : SimL fn.ntmps fp w c0 (LSt.mk (initP 0 args0) mem0 (lv0.map (fun τ => (τ, true))) 0) { tmps := xs ++ Array.replicate (fn.ntmps - xs.size) undef, defers := [] } w c0 := by
    refine ⟨⟨hs0, fun t v hv => ?_, ⟨rfl, rfl, rfl, Nat.le_refl _, fun _ _ _ => rfl, fun _ _ _ _ => rfl, fun _ _ _ h => h, fun k b hk => .inr (.inl ⟨k, (c0M k b).1 hk⟩), fun τ x hx g hg => .inr (hfpO τ x hx g hg), Cfg.le.refl _, fun _ _ => ⟨rfl, rfl⟩⟩, rfl, ?_⟩, fun k b hk => ?_, fun k x hk => ?_⟩
    · obtain ⟨h1, h2⟩ := lookE_initP _ 0 t v (show lookE _ t = some v from hv)
      rw [Nat.sub_zero] at h2
      have h3 : args[t]? = some (ren fin v) := by rw [← hA]; show (renL fin args0)[t]? = _; rw [renL_get, h2]; rfl
      have hlt : t < xs.size := by rw [hx.1]; exact (List.getElem?_eq_some_iff.1 h3).1
      exact ⟨xs.getD t undef, by simp [Array.getElem?_append_left hlt, hlt], hin (hx.2 t _ h3) (inL_get hinA h2)⟩
    · have : xs.size = args0.length := by rw [hx.1, ← hA, renL_length]
      simp; omega
    · have := hep k (hnmM ((c0M k b).1 hk).1)
      exact .inr ⟨this, trivial⟩
    · have := hep k ((c0O k x).1 hk).1
      exact .inr ⟨this, trivial⟩
  refine wp_mono (AWp_sound hT hm code _ _ h _ w _ hsim) ?_
  rintro ex a w' ⟨s, c', hq, hsm⟩
  have fin : fnE T fn d ep ρ kept e s → a.defers = [] ∧ ∃ v, (results fn a.tmps).run P w' = .ok v w' ∧
      ∃ v' c2, Ending.returned v = .returned v' ∧ RepP c2 e.val v' ∧ StepF σ (some d) e w w' c c2 := by
    rintro ⟨s1, hup, r, nb, na, hres, hval, hwr, hal, hnw, hlv, hnd1, hnd2, hdis⟩
    obtain ⟨c', hsm⟩ := hup _ _ _ _ _ _ _ hsm
    obtain ⟨v, h1, h2⟩ : ∃ v, (results fn a.tmps).run P w' = .ok v w' ∧ RepP c' r v := by
      rcases hres with ⟨dv, q1, rfl⟩ | q1
      · obtain ⟨v, h1, h2⟩ := resF_sound hT hsm q1
        exact ⟨v, h1, .dat _ _ h2⟩
      · exact resP_sound hT hsm q1
    have hfr' := hsm.1.fr
    have hs' := hsm.1.hs
    obtain ⟨w1, w2⟩ := wrOK_mem hwr
    obtain ⟨a1, a2⟩ := alOK_mem hal
    have l1 := lvOK_mem hlv
    let nl := nb ++ na
    let φ : Key → Option Key := kout ρ kept (fout d ep nl)
    let c2 : Cfg := { K := c'.K, M := atNew d ep nl c'.M c.M, O := atNew d ep nl c'.O c.O }
    have newM : ∀ {p : Key × Nat}, p ∈ nl → c2.M (d, p.2, ep) = c'.M p.1 := fun {p} hp => atNew_hit hnd2 hp
    have newO : ∀ {p : Key × Nat}, p ∈ nl → c2.O (d, p.2, ep) = c'.O p.1 := fun {p} hp => atNew_hit hnd2 hp
    have oldM : ∀ {k : Key}, (∀ p ∈ nl, (d, p.2, ep) ≠ k) → c2.M k = c.M k := fun {k} hk => atNew_miss hk
    have oldO : ∀ {k : Key}, (∀ p ∈ nl, (d, p.2, ep) ≠ k) → c2.O k = c.O k := fun {k} hk => atNew_miss hk
    have nof : ∀ {k : Key}, (c.M k ≠ none ∨ c.O k ≠ none) → ∀ p ∈ nl, (d, p.2, ep) ≠ k := by
      rintro k hk p hp rfl
      rcases hk with hk | hk
      · exact hk (hfr.1 p.2).1
      · exact hk (hfr.1 p.2).2
    have someB : ∀ {k cs}, σ.mem k = some cs → c.M k ≠ none ∨ c.O k ≠ none := by
      intro k cs hk
      rcases hs.box k cs hk with ⟨_, b, _, _, h1, _⟩ | ⟨x, _, _, _, _, h1, _⟩
      · exact .inl (by rw [h1]; simp)
      · exact .inr (by rw [h1]; simp)
    have hle : c.le c2 := by
      refine ⟨fun b o v hk => hfr'.le0.K b o v hk, fun k b hk => ?_, fun k x hk => ?_⟩
      · rw [oldM (nof (.inl (by rw [hk]; simp)))]; exact hk
      · rw [oldO (nof (.inr (by rw [hk]; simp)))]; exact hk
    have keptK : ∀ {k}, k ∈ kept → k ∈ mem0.map (·.1) := fun {k} hk => (hkd k).2 (.inl hk)
    have hM1 : ∀ {k}, k ∈ mem0.map (·.1) → c'.M k = c.M (ρ k) := fun {k} hk => ((hfr'.old k (hep k (hnmM hk))).1).trans (c0Mn hk)
    have hO1 : ∀ {k}, k ∈ nm → c'.O k = c.O (ρ k) := fun {k} hk => ((hfr'.old k (hep k hk)).2).trans (c0On hk)
    have hsome : ∀ {k}, k ∈ mem0.map (·.1) → ∀ p ∈ nl, (d, p.2, ep) ≠ ρ k := by
      intro k hk
      obtain ⟨cs, h3⟩ := hkm hk
      exact nof (someB (hmem0 h3))
    have conv : ∀ {v : PV} {x : Value}, RepP c' v x → RepP c2 (ren φ v) x := by
      intro v x hv
      refine RepP.ren (c := c') (c2 := c2) (f := φ) (fun _ _ _ q => q) (fun k k' b hk hb => ?_) (fun k k' x hk hx => ?_) hv
      · rcases kout_mem hk with ⟨q1, rfl⟩ | q1
        · rw [oldM (hsome (keptK q1)), ← hM1 (keptK q1)]; exact hb
        · obtain ⟨i, q2, rfl⟩ := fout_mem q1
          exact (newM (p := (k, i)) q2).trans hb
      · rcases kout_mem hk with ⟨q1, rfl⟩ | q1
        · rw [oldO (hsome (keptK q1)), ← hO1 (hnmM (keptK q1))]; exact hx
        · obtain ⟨i, q2, rfl⟩ := fout_mem q1
          exact (newO (p := (k, i)) q2).trans hx
    have hcell2 : ∀ {cs : List PV} {f : Nat → Option Value}, CellsR c' cs f → CellsR c2 (renL φ cs) f := by
      intro cs f hc j v hj
      rw [renL_get] at hj
      obtain ⟨v', q1, rfl⟩ := Option.map_eq_some_iff.1 hj
      obtain ⟨x, q2, q3, q4⟩ := hc j v' q1
      exact ⟨x, q2, q3, conv q4⟩
    have hbox2 : ∀ {k k' cs}, lookM s1.mem k = some cs → c2.M k' = c'.M k → c2.O k' = c'.O k → BoxAt w' c2 k' (renL φ cs) := by
      intro k k' cs hk eM eO
      rcases hs'.box k cs hk with ⟨h0, b, ty, arr, q1, q2, q3, q4⟩ | ⟨x, e', sz, n, ys, q1, q2, q3, q4, q5⟩
      · exact .inl ⟨eO.trans h0, b, ty, arr, eM.trans q1, q2, by rw [renL_length]; exact q3, hcell2 q4⟩
      · exact .inr ⟨x, e', sz, n, ys, eO.trans q1, q2, eM.trans q3, by rw [renL_length]; exact q4, hcell2 q5⟩
    -- a block that is not the frame's
    have hnfpM : ∀ {k cs b}, σ.mem k = some cs → c.M k = some b → (∀ k0 ∈ mem0.map (·.1), ρ k0 ≠ k) → ¬ fp b := by
      rintro k cs b hk hb hn (⟨k', hk', hb'⟩ | ⟨τ', hτ', x', hx', hg'⟩)
      · obtain ⟨cs', h3⟩ := hkm hk'
        exact hn k' hk' (hs.minj _ _ _ _ b (hmem0 h3) hk hb' hb)
      · obtain ⟨y, e', sz, n, ys, q1, q2, q3⟩ := hs.own (ρ τ') (hlive0 hτ')
        rw [hx'] at q1
        obtain rfl := Option.some.inj q1
        exact (q3 b hg').2 k cs hk hb
    have hnfpL : ∀ τ, σ.live τ = true → (∀ τ0 ∈ lv0, ρ τ0 ≠ τ) → ∀ x, c.O τ = some x → ∀ g, x.1.ownBlock = some g → ¬ fp g := by
      rintro τ ht hτ x hx g hg (⟨k, hk, hb⟩ | ⟨τ', hτ', x', hx', hg'⟩)
      · obtain ⟨cs', h3⟩ := hkm hk
        obtain ⟨y, e', sz, n, ys, g1, g2, g3⟩ := hs.own τ ht
        rw [hx] at g1
        obtain rfl := Option.some.inj g1
        exact (g3 g hg).2 _ _ (hmem0 h3) hb
      · exact hτ τ' hτ' (hs.odis _ _ _ _ g (hlive0 hτ') ht hx' hx hg' hg)
    have hfpt : ∀ b, fp b → touched e c b := by
      rintro b (⟨k, hk, hb⟩ | ⟨τ, hτ, x, hx, hg⟩)
      · rcases (hkd k).1 hk with q | q
        · obtain ⟨p, hp, e1⟩ := w2 k q
          exact .inl ⟨p, hp, by rw [e1]; exact hb⟩
        · exact .inr (.inr ⟨ρ k, by rw [hrm]; exact List.mem_map_of_mem q, hb⟩)
      · exact .inr (.inl ⟨ρ τ, by rw [huse]; exact List.mem_map_of_mem hτ, x, hx, hg⟩)
    -- what the state has behind the call
    have hmem : ∀ {k cs}, (Eff.app (some d) e σ).mem k = some cs → (∃ k0 ∈ kept, k = ρ k0 ∧ ∃ cs0, lookM s1.mem k0 = some cs0 ∧ cs = renL φ cs0) ∨
        (∃ p ∈ nb, k = (d, p.2, ep) ∧ ∃ cs0, lookM s1.mem p.1 = some cs0 ∧ cs = renL φ cs0) ∨ (σ.mem k = some cs ∧ (∀ k0 ∈ mem0.map (·.1), ρ k0 ≠ k)) := by
      intro k cs hk
      have hk : wrMem e.wr (wrMem (e.alKeys ((some d).getD 0) σ.ep) (rmMem e.rm σ.mem)) k = some cs := hk
      by_cases q : ∃ p ∈ e.wr, p.1 = k
      · have hm := wrMem_hit _ _ _ _ hk q
        obtain ⟨k0, q1, q2, cs0, q3, q4⟩ := w1 _ hm
        exact .inl ⟨k0, q1, q2, cs0, q3, q4⟩
      · rw [wrMem_missK _ _ _ (fun p hp e1 => q ⟨p, hp, e1⟩)] at hk
        by_cases q' : ∃ p ∈ e.alKeys ((some d).getD 0) σ.ep, p.1 = k
        · have hm := wrMem_hit _ _ _ _ hk q'
          simp only [Eff.alKeys, Option.getD_some, List.mem_map] at hm
          obtain ⟨⟨i, cs1⟩, q1, q2⟩ := hm
          obtain ⟨rfl, rfl⟩ := Prod.mk.inj q2
          obtain ⟨k0, q3, cs0, q4, q5⟩ := a1 _ q1
          exact .inr (.inl ⟨(k0, i), q3, by rw [hσ], cs0, q4, q5⟩)
        · rw [wrMem_missK _ _ _ (fun p hp e1 => q' ⟨p, hp, e1⟩), rmMem_eq] at hk
          split at hk
          · cases hk
          · rename_i hnr
            refine .inr (.inr ⟨hk, fun k0 hk0 e1 => ?_⟩)
            subst e1
            rcases (hkd k0).1 hk0 with q1 | q1
            · obtain ⟨p, hp, e1⟩ := w2 k0 q1
              exact q ⟨p, hp, e1⟩
            · exact hnr (by rw [hrm]; exact List.mem_map_of_mem q1)
    have hlv' : ∀ {τ}, (Eff.app (some d) e σ).live τ = true → (∃ p ∈ na, τ = (d, p.2, ep)) ∨ (σ.live τ = true ∧ (∀ τ0 ∈ lv0, ρ τ0 ≠ τ) ∧ ∀ p ∈ nl, (d, p.2, ep) ≠ τ) := by
      intro τ ht
      have ht : setLive true (e.nwKeys ((some d).getD 0) σ.ep) (setLive false e.use σ.live) τ = true := ht
      rw [setLive_eqK, setLive_eqK] at ht
      by_cases q : τ ∈ e.nwKeys ((some d).getD 0) σ.ep
      · simp only [Eff.nwKeys, Option.getD_some, List.mem_map] at q
        obtain ⟨i, hi, rfl⟩ := q
        rw [← hnw] at hi
        obtain ⟨p, hp, rfl⟩ := List.mem_map.1 hi
        exact .inl ⟨p, hp, by rw [hσ]⟩
      · rw [if_neg q] at ht
        split at ht
        · cases ht
        · rename_i hu
          refine .inr ⟨ht, fun τ0 hτ0 e1 => hu (by rw [huse, ← e1]; exact List.mem_map_of_mem hτ0), ?_⟩
          obtain ⟨x, _, _, _, _, g1, _⟩ := hs.own τ ht
          exact nof (.inr (by rw [g1]; simp))
    have hnbl : ∀ {p}, p ∈ nb → p ∈ nl := fun {p} hp => List.mem_append_left _ hp
    have hnal : ∀ {p}, p ∈ na → p ∈ nl := fun {p} hp => List.mem_append_right _ hp
    have hoB := hfr'.oB
    have hmB := hfr'.mB
    have hrv : RepP c2 e.val v := by rw [← hval]; exact conv h2
    refine ⟨hsm.1.nodef, v, h1, v, c2, rfl, hrv, hle, hfr'.os, hfr'.tape, hfr'.output, hfr'.size, fun b hb ht => hfr'.blk b hb (fun q => ht (hfpt b q)), fun b o hb ht => hfr'.kn b o hb (fun q => ht (hfpt b q)), fun k b hk => ?_, fun τ x hx => ?_, ?_⟩
    · by_cases q : ∃ p ∈ nl, (d, p.2, ep) = k
      · obtain ⟨p, hp, rfl⟩ := q
        rw [newM hp] at hk
        refine .inr ⟨?_, (hmB _ b hk).imp id (hfpt b)⟩
        rcases List.mem_append.1 hp with hp | hp
        · obtain ⟨⟨i, cs⟩, q1, q2⟩ := a2 p hp
          exact .inr ⟨i, cs, q1, by rw [hσ, ← q2]; rfl⟩
        · exact .inl ⟨p.2, by rw [← hnw]; exact List.mem_map_of_mem hp, by rw [hσ]; rfl⟩
      · exact .inl (by rw [← oldM (fun p hp e1 => q ⟨p, hp, e1⟩)]; exact hk)
    · by_cases q : ∃ p ∈ nl, (d, p.2, ep) = τ
      · obtain ⟨p, hp, rfl⟩ := q
        rw [newO hp] at hx
        refine .inr ⟨?_, fun g hg => (hoB _ _ hx g hg).imp id (hfpt g)⟩
        rcases List.mem_append.1 hp with hp | hp
        · obtain ⟨⟨i, cs⟩, q1, q2⟩ := a2 p hp
          exact .inr ⟨i, cs, q1, by rw [hσ, ← q2]; rfl⟩
        · exact .inl ⟨p.2, by rw [← hnw]; exact List.mem_map_of_mem hp, by rw [hσ]; rfl⟩
      · exact .inl (by rw [← oldO (fun p hp e1 => q ⟨p, hp, e1⟩)]; exact hx)
    · have bM : ∀ {k cs b}, (Eff.app (some d) e σ).mem k = some cs → c2.M k = some b →
          (∃ k0 ∈ kept, k = ρ k0 ∧ (∃ cs0, lookM s1.mem k0 = some cs0) ∧ c'.M k0 = some b ∧ c.M k = some b) ∨ (∃ p ∈ nb, k = (d, p.2, ep) ∧ (∃ cs0, lookM s1.mem p.1 = some cs0) ∧ c'.M p.1 = some b) ∨
          (σ.mem k = some cs ∧ (∀ k0 ∈ mem0.map (·.1), ρ k0 ≠ k) ∧ c.M k = some b ∧ ¬ fp b ∧ b < w.heap.size) := by
        intro k cs b hk hb
        rcases hmem hk with ⟨k0, q1, rfl, cs0, q3, q4⟩ | ⟨p, q1, rfl, cs0, q3, q4⟩ | ⟨q1, q2⟩
        · rw [oldM (hsome (keptK q1))] at hb
          exact .inl ⟨k0, q1, rfl, ⟨cs0, q3⟩, (hM1 (keptK q1)).trans hb, hb⟩
        · rw [newM (hnbl q1)] at hb
          exact .inr (.inl ⟨p, q1, rfl, ⟨cs0, q3⟩, hb⟩)
        · rw [oldM (nof (someB q1))] at hb
          exact .inr (.inr ⟨q1, q2, hb, hnfpM q1 hb q2, hs.mlt k b hb⟩)
      refine ⟨hs'.kin, fun k cs hk => ?_, fun k b hk => ?_, fun k cs b hk hb o => ?_, fun k k' cs cs' b hk hk' hb hb' => ?_, fun τ ht => ?_, fun τ τ' x x' g ht ht' hx hx' hg hg' => ?_, hs'.gk⟩
      · rcases hmem hk with ⟨k0, q1, rfl, cs0, q3, rfl⟩ | ⟨p, q1, rfl, cs0, q3, rfl⟩ | ⟨q1, q2⟩
        · exact hbox2 q3 ((oldM (hsome (keptK q1))).trans (hM1 (keptK q1)).symm) ((oldO (hsome (keptK q1))).trans (hO1 (hnmM (keptK q1))).symm)
        · exact hbox2 q3 (newM (hnbl q1)) (newO (hnbl q1))
        · exact (hs.box k cs q1).kept hle (oldM (nof (someB q1))) (oldO (nof (someB q1))) (fun b hb => hfr'.blk b (hs.mlt k b hb) (hnfpM q1 hb q2))
      · by_cases q : ∃ p ∈ nl, (d, p.2, ep) = k
        · obtain ⟨p, hp, rfl⟩ := q
          rw [newM hp] at hk
          exact hs'.mlt _ b hk
        · rw [oldM (fun p hp e1 => q ⟨p, hp, e1⟩)] at hk
          exact Nat.lt_of_lt_of_le (hs.mlt k b hk) hfr'.size
      · show c'.K b o = none
        rcases bM hk hb with ⟨k0, q1, q2, ⟨cs0, q3⟩, q4, _⟩ | ⟨p, q1, q2, ⟨cs0, q3⟩, q4⟩ | ⟨q1, q2, q3, q4, q5⟩
        · exact hs'.mblk k0 cs0 b q3 q4 o
        · exact hs'.mblk p.1 cs0 b q3 q4 o
        · rw [hfr'.kn b o q5 q4]
          exact hs.mblk k cs b q1 q3 o
      · rcases bM hk hb with ⟨k0, q1, q2, ⟨cs0, q3⟩, q4, q5⟩ | ⟨p, q1, q2, ⟨cs0, q3⟩, q4⟩ | ⟨q1, q2, q3, q4, q5⟩ <;> rcases bM hk' hb' with ⟨k0', r1, r2, ⟨cs0', r3⟩, r4, r5⟩ | ⟨p', r1, r2, ⟨cs0', r3⟩, r4⟩ | ⟨r1, r2, r3, r4, r5⟩
        · have := hs'.minj k0 k0' cs0 cs0' b q3 r3 q4 r4
          rw [q2, r2, this]
        · have := hs'.minj k0 p'.1 cs0 cs0' b q3 r3 q4 r4
          exact absurd (List.mem_map_of_mem (f := (·.1)) (hnbl r1)) (by rw [← this]; exact hdis k0 q1)
        · exact absurd (.inl ⟨k0, keptK q1, by rw [← q2]; exact q5⟩) r4
        · have := hs'.minj k0' p.1 cs0' cs0 b r3 q3 r4 q4
          exact absurd (List.mem_map_of_mem (f := (·.1)) (hnbl q1)) (by rw [← this]; exact hdis k0' r1)
        · have := hs'.minj p.1 p'.1 cs0 cs0' b q3 r3 q4 r4
          rw [q2, r2, nodup_fst hnd1 (hnbl q1) (hnbl r1) this]
        · rcases hmB _ b q4 with z | z
          · omega
          · exact absurd z r4
        · exact absurd (.inl ⟨k0', keptK r1, by rw [← r2]; exact r5⟩) q4
        · rcases hmB _ b r4 with z | z
          · omega
          · exact absurd z q4
        · exact hs.minj k k' cs cs' b q1 r1 q3 r3
      · rcases hlv' ht with ⟨p, hp, rfl⟩ | ⟨t1, t2, t3⟩
        · obtain ⟨x, e', sz, n, ys, g1, g2, g3⟩ := hs'.own p.1 (l1 p hp)
          refine ⟨x, e', sz, n, ys, by rw [newO (hnal hp)]; exact g1, g2, fun g hg => ⟨(g3 g hg).1, fun k cs hk hb => ?_⟩⟩
          rcases bM hk hb with ⟨k0, q1, q2, ⟨cs0, q3⟩, q4, q5⟩ | ⟨p, q1, q2, ⟨cs0, q3⟩, q4⟩ | ⟨q1, q2, q3, q4, q5⟩
          · exact (g3 g hg).2 k0 cs0 q3 q4
          · exact (g3 g hg).2 p.1 cs0 q3 q4
          · rcases hoB _ _ g1 g hg with z | z
            · omega
            · exact q4 z
        · obtain ⟨x, e', sz, n, ys, g1, g2, g3⟩ := hs.own τ t1
          refine ⟨x, e', sz, n, ys, by rw [oldO t3]; exact g1, ownsRow_keptB g2 (fun g hg => hfr'.blk g (g2.lt g hg).2 (hnfpL τ t1 t2 _ g1 g hg)), fun g hg => ⟨fun o v hk => ?_, fun k cs hk hb => ?_⟩⟩
          · have hlt := (g2.lt g hg).2
            rw [show c2.K g o = c.K g o from hfr'.kn g o hlt (hnfpL τ t1 t2 _ g1 g hg)] at hk
            exact (g3 g hg).1 o v hk
          · have hnf := hnfpL τ t1 t2 _ g1 g hg
            have hlt := (g2.lt g hg).2
            rcases bM hk hb with ⟨k0, q1, q2, ⟨cs0, q3⟩, q4, q5⟩ | ⟨p, q1, q2, ⟨cs0, q3⟩, q4⟩ | ⟨q1, q2, q3, q4, q5⟩
            · exact hnf (.inl ⟨k0, keptK q1, by rw [← q2]; exact q5⟩)
            · rcases hmB _ g q4 with z | z
              · omega
              · exact hnf z
            · exact (g3 g hg).2 k cs q1 q3
      · rcases hlv' ht with ⟨p, hp, rfl⟩ | ⟨t1, t2, t3⟩ <;> rcases hlv' ht' with ⟨p', hp', rfl⟩ | ⟨t1', t2', t3'⟩
        · rw [newO (hnal hp)] at hx
          rw [newO (hnal hp')] at hx'
          have := hs'.odis p.1 p'.1 x x' g (l1 p hp) (l1 p' hp') hx hx' hg hg'
          rw [nodup_fst hnd1 (hnal hp) (hnal hp') this]
        · rw [newO (hnal hp)] at hx
          rw [oldO t3'] at hx'
          obtain ⟨y, e', sz, n, ys, g1, g2, g3⟩ := hs.own τ' t1'
          rw [g1] at hx'
          obtain rfl := Option.some.inj hx'
          rcases hoB _ _ hx g hg with z | z
          · have := (g2.lt g hg').2; omega
          · exact absurd z (hnfpL τ' t1' t2' _ g1 g hg')
        · rw [newO (hnal hp')] at hx'
          rw [oldO t3] at hx
          obtain ⟨y, e', sz, n, ys, g1, g2, g3⟩ := hs.own τ t1
          rw [g1] at hx
          obtain rfl := Option.some.inj hx
          rcases hoB _ _ hx' g hg' with z | z
          · have := (g2.lt g hg).2; omega
          · exact absurd z (hnfpL τ t1 t2 _ g1 g hg)
        · rw [oldO t3] at hx
          rw [oldO t3'] at hx'
          exact hs.odis τ τ' x x' g t1 t1' hx hx' hg hg'
  cases ex with
  | normal => exact fin hq
  | ret => exact fin hq
  | _ => exact hq.elim
theorem entM_sound : ∀ {rdm m : List (Key × List PV)}, entM rdm m → ∀ p ∈ rdm, lookM m p.1 = some p.2
  | [], _, _, p, hp => by simp at hp
  | (k, v) :: r, m, h, p, hp => by
    rcases List.mem_cons.1 hp with rfl | hp
    · exact h.1
    · exact entM_sound h.2 p hp
def entU : List Key → List (Key × Bool) → Prop
  | [], _ => True
  | k :: r, m => lookB m k = true ∧ entU r m
theorem entU_sound : ∀ {l : List Key} {m : List (Key × Bool)}, entU l m → ∀ k ∈ l, lookB m k = true
  | [], _, _, p, hp => by simp at hp
  | k :: r, m, h, p, hp => by
    rcases List.mem_cons.1 hp with rfl | hp
    · exact h.1
    · exact entU_sound h.2 p hp
theorem rl_callE {ops : Array Oper} {o : Oper} {l : List Oper} {env : List (Nat × PV)} {mem mem1 : List (Key × List PV)} {live : List (Key × Bool)} {ep : Nat} {K : LSt → List Eff → Prop} {d : Nat} {g : FuncId} {args args' : List PV} {rdm : List (Key × List PV)} {e : Eff}
    (hE : CallE P g args rdm d ep e) (hg : o.guard = none) (hd : o.dst = some d) (h : opOut T o (LSt.mk env mem live ep).den = .call g args') (ha : args' = args) (hm : entM rdm mem) (hu : entU e.use live) (hr : delM e.rm mem = mem1)
    (hk : RunL P T ops l ⟨(d, e.val) :: env, pushM e.wr (pushM (e.alKeys d ep) mem1), pushB true (e.nwKeys d ep) (pushB false e.use live), ep⟩ fun s' es => K s' (e :: es)) : RunL P T ops (o :: l) ⟨env, mem, live, ep⟩ K := by
  subst ha
  subst hr
  refine rl_step hg ?_
  unfold OpK
  rw [h]
  simp only [Out.holds]
  rw [hd]
  exact ⟨d, rdm, e, rfl, fun p hp => entM_sound hm p hp, fun τ hτ => entU_sound hu τ hτ, hE, hk⟩
theorem pk_case {ops : Array Oper} {l : List Oper} {env : List (Nat × PV)} {mem : List (Key × List PV)} {live : List (Key × Bool)} {ep : Nat} {K : LSt → List Eff → Prop} {d : Nat} {c x y : Operand} {ty : TypeId} {pos : String} {after : Array Edge} {b : Bool}
    (hc : evalO (LSt.mk env mem live ep).den c = some (.dat (.bool b)))
    (h1 : b = true → RunL P T ops ({ dst := some d, op := .pick c x y, type := ty, pos := pos, after := after, guard := none } :: l) ⟨env, mem, live, ep⟩ K)
    (h2 : b = false → RunL P T ops ({ dst := some d, op := .pick c x y, type := ty, pos := pos, after := after, guard := none } :: l) ⟨env, mem, live, ep⟩ K) :
    RunL P T ops ({ dst := some d, op := .pick c x y, type := ty, pos := pos, after := after, guard := none } :: l) ⟨env, mem, live, ep⟩ K := by
  cases b
  · exact h2 rfl
  · exact h1 rfl
end
end Go.Proofs.YtbeafnkcimfeeaaGreatDoor.AM
/- The abstract machine (21): arguments are read as data. -/
namespace Go.Proofs.YtbeafnkcimfeeaaGreatDoor.AM
set_option linter.unusedVariables false
set_option linter.unusedSimpArgs false
open Go.RowKit
set_option linter.unusedVariables false
def allK (w : World) : Known := fun b o => w.cell? ⟨b, o, none⟩
inductive Shp (P : Program) : TypeId → List DV → Prop where
  | int {t : TypeId} {k : IntKind} {n : Int} (h : P.underlying t = some (.int k)) (hw : (Lit.int k n).wf = true) : Shp P t [.int k n]
  | bool {t : TypeId} {b : Bool} (h : P.underlying t = some .bool) : Shp P t [.bool b]
  | str {t : TypeId} {s : List UInt8} (h : P.underlying t = some .string) (hl : s.length ≤ maxLen) : Shp P t [.str s]
  | row {t e : TypeId} {es : List (List DV)} (h : P.underlying t = some (.slice e)) (hs : ∀ r ∈ es, Shp P e r) (hl : ∀ r ∈ es, r.length = P.cellsOf e) (hz : es.length * P.bytesOf e ≤ reachBytes) : Shp P t [.lst (P.cellsOf e) es]
  | agg {t : TypeId} {fs : Array Field} {dss : List (List DV)} (h : P.underlying t = some (.struct fs)) (hl : dss.length = fs.size) (hs : ∀ (i : Nat) (f : Field) (ds : List DV), fs[i]? = some f → dss[i]? = some ds → Shp P f.type ds) : Shp P t dss.flatten
def flatB (P : Program) : List Field → Nat → Nat → Bool
  | [], off, n => off == n
  | f :: r, off, n => f.offset == off && flatB P r (off + P.cellsOf f.type) n
def closedB (P : Program) (l : List TypeId) : Bool := l.all fun t => match P.underlying t with
  | some (.int _) => true
  | some .bool => true
  | some .string => true
  | some (.slice e) => l.contains e && decide (0 < P.cellsOf e)
  | some (.struct fs) => fs.toList.all (fun f => l.contains f.type) && flatB P fs.toList 0 (P.cellsOf t)
  | _ => false
def ReadsAs (K : Known) (ds : List DV) (cs : List Value) : Prop := ds.length = cs.length ∧ ∀ (j : Nat) (d : DV), ds[j]? = some d → ∃ v, cs[j]? = some v ∧ v.oneCell' = true ∧ RepD K d v
theorem flat_reads {P : Program} {K : Known} {cs : List Value} : ∀ (fs : List Field) (off n : Nat) (dss : List (List DV)), flatB P fs off n = true → cs.length = n → dss.length = fs.length →
    (∀ (i : Nat) (f : Field) (ds : List DV), fs[i]? = some f → dss[i]? = some ds → ReadsAs K ds ((cs.drop f.offset).take (P.cellsOf f.type)) ∧ ds.length = P.cellsOf f.type) →
    off ≤ n ∧ ReadsAs K dss.flatten (cs.drop off)
  | [], off, n, [], h, hc, _, _ => by
    simp [flatB] at h
    subst h
    refine ⟨Nat.le_refl _, ?_, fun j d hj => by simp at hj⟩
    simp [hc]
  | f :: r, off, n, ds :: dr, h, hc, hl, hf => by
    simp only [flatB, Bool.and_eq_true, beq_iff_eq] at h
    obtain ⟨h1, h2⟩ := h
    obtain ⟨h3, h4⟩ := hf 0 f ds rfl rfl
    obtain ⟨h5, h6⟩ := flat_reads r (off + P.cellsOf f.type) n dr h2 hc (by simpa using hl) (fun i g es hg he => hf (i + 1) g es (by simpa using hg) (by simpa using he))
    refine ⟨by omega, ?_, fun j d hj => ?_⟩
    · have := h6.1
      simp only [List.flatten_cons, List.length_append, List.length_drop] at this ⊢
      omega
    · simp only [List.flatten_cons] at hj
      rw [List.getElem?_append] at hj
      split at hj
      · rename_i hlt
        obtain ⟨v, g1, g2⟩ := h3.2 j d hj
        rw [h1] at g1
        simp only [List.getElem?_take, List.getElem?_drop] at g1 ⊢
        split at g1
        · exact ⟨v, g1, g2⟩
        · cases g1
      · rename_i hlt
        obtain ⟨v, g1, g2⟩ := h6.2 _ d hj
        simp only [List.getElem?_drop] at g1 ⊢
        refine ⟨v, ?_, g2⟩
        rw [← g1]
        congr 1
        omega
  | [], _, _, _ :: _, _, _, hl, _ => by simp at hl
  | _ :: _, _, _, [], _, _, hl, _ => by simp at hl
theorem cells_spot {w : World} {base : Nat} {a : Addr} {n : Nat} {l : List Value} (hn : 0 < n) (h : w.cells? base a n = some l) : a.spot = none := by
  obtain ⟨_, hl, hc⟩ := World.cells?_some h
  have := hc 0 hn
  obtain ⟨b, o, sp⟩ := a
  cases sp with
  | none => rfl
  | some q =>
    exfalso
    have h0 : l[0]? = some l[0] := by simp
    rw [h0] at this
    simp only [World.cell?, Addr.add] at this
    split at this <;> simp_all
theorem cells_at {w : World} {base : Nat} {b o n : Nat} {l : List Value} (h : w.cells? base ⟨b, o, none⟩ n = some l) : l.length = n ∧ ∀ j, j < n → w.cell? ⟨b, o + j, none⟩ = l[j]? := by
  obtain ⟨_, hl, hc⟩ := World.cells?_some h
  refine ⟨hl, fun j hj => ?_⟩
  have := hc j hj
  rw [addr_add] at this
  exact this
theorem closed_at {P : Program} {l : List TypeId} (h : closedB P l = true) {t : TypeId} (ht : t ∈ l) : (match P.underlying t with
  | some (.int _) => true
  | some .bool => true
  | some .string => true
  | some (.slice e) => l.contains e && decide (0 < P.cellsOf e)
  | some (.struct fs) => fs.toList.all (fun f => l.contains f.type) && flatB P fs.toList 0 (P.cellsOf t)
  | _ => false) = true := by
  unfold closedB at h
  rw [List.all_eq_true] at h
  exact h t ht
theorem flatB_bound {P : Program} : ∀ (fs : List Field) (off n : Nat), flatB P fs off n = true → off ≤ n ∧ ∀ (i : Nat) (f : Field), fs[i]? = some f → f.offset + P.cellsOf f.type ≤ n
  | [], off, n, h => by simp [flatB] at h; subst h; exact ⟨Nat.le_refl _, fun i f hf => by simp at hf⟩
  | g :: r, off, n, h => by
    simp only [flatB, Bool.and_eq_true, beq_iff_eq] at h
    obtain ⟨h1, h2⟩ := flatB_bound r _ _ h.2
    refine ⟨by omega, fun i f hf => ?_⟩
    cases i with
    | zero => simp at hf; subst hf; omega
    | succ i => exact h2 i f (by simpa using hf)
theorem list_choice {α : Type} {R : Nat → α → Prop} : ∀ (m : Nat), (∀ i, i < m → ∃ a, R i a) → ∃ l : List α, l.length = m ∧ ∀ i a, l[i]? = some a → R i a
  | 0, _ => ⟨[], rfl, fun i a h => by simp at h⟩
  | m + 1, h => by
    obtain ⟨l, h1, h2⟩ := list_choice m (fun i hi => h i (by omega))
    obtain ⟨a, ha⟩ := h m (by omega)
    refine ⟨l ++ [a], by simp [h1], fun i b hb => ?_⟩
    rw [List.getElem?_append] at hb
    split at hb
    · exact h2 i b hb
    · rename_i hlt
      have hi : i - l.length = 0 := by
        rcases Nat.eq_zero_or_pos (i - l.length) with q | q
        · exact q
        · rw [List.getElem?_eq_none (by simp; omega)] at hb; cases hb
      rw [hi] at hb
      simp at hb
      subst hb
      have : i = m := by omega
      rw [this]; exact ha
theorem weightsAll_mem {H : Type} {P : Program} {e : TypeId} : ∀ {l : List (DataW H)} {d : DataW H}, d ∈ l → ∀ m ∈ d.weights P e, m ∈ DataW.weightsAll P e l
  | [], _, h, _, _ => by simp at h
  | a :: r, d, h, m, hm => by
    simp only [DataW.weightsAll, List.mem_append]
    rcases List.mem_cons.1 h with rfl | h
    · exact .inl hm
    · exact .inr (weightsAll_mem h m hm)
theorem read_all {H : Type} {enc : TypeId × Value → H} {P : Program} {w : World} {spare : Nat → Bool} {held : Bool} {l : List TypeId} (hcl : closedB P l = true) (hsp : ∀ b, spare b = true) :
    ∀ (n : Nat) (t : TypeId) (cs : List Value) (x : DataW H × List MemPlace), t ∈ l → DataW.trod enc P w 0 spare held n t cs = some x → (∀ m ∈ x.1.weights P t, m ≤ reachBytes) → ∃ ds, Shp P t ds ∧ ReadsAs (allK w) ds cs
  | 0, t, cs, x, ht, h, _ => by simp [DataW.trod] at h
  | n + 1, t, cs, x, ht, h, hwt => by
    have hc := closed_at hcl ht
    split at hc
    · rename_i k hu
      obtain ⟨m, rfl, rfl, hw⟩ := DataW.trod_int hu h
      exact ⟨[.int k m], .int hu hw, rfl, fun j d hj => by cases j <;> simp at hj; subst hj; exact ⟨_, rfl, rfl, .int _ _⟩⟩
    · rename_i hu
      obtain ⟨b, rfl, rfl⟩ := DataW.trod_bool hu h
      exact ⟨[.bool b], .bool hu, rfl, fun j d hj => by cases j <;> simp at hj; subst hj; exact ⟨_, rfl, rfl, .bool _⟩⟩
    · rename_i hu
      obtain ⟨s, rfl, rfl, hm⟩ := DataW.trod_string hu h
      refine ⟨[.str s.data.toList], .str hu (by simpa using hm), rfl, fun j d hj => by cases j <;> simp at hj; subst hj; exact ⟨_, rfl, rfl, .str s.data.toList (by simpa using hm)⟩⟩
    · rename_i e hu
      simp only [Bool.and_eq_true, List.contains_iff_mem, decide_eq_true_eq] at hc
      rcases DataW.trod_slice hu h with ⟨rfl, rfl⟩ | ⟨a, len, cap, elems, rest, m, hm, rfl, rfl, hb, hlc, hcm, hel, hes, hrs, _⟩
      · exact ⟨[.lst (P.cellsOf e) []], .row hu (by simp) (by simp) (by simp), rfl, fun j d hj => by cases j <;> simp at hj; subst hj; exact ⟨_, rfl, rfl, .nils _⟩⟩
      · obtain rfl : n = m := by omega
        obtain ⟨es, h1, h2⟩ := list_choice (R := fun i r => Shp P e r ∧ ∃ cells, w.cells? 0 (a.add (i * P.cellsOf e)) (P.cellsOf e) = some cells ∧ ReadsAs (allK w) r cells) len (fun i hi => by
          have := hes i hi
          have hxi : elems[i]? = some (elems[i]'(by omega)) := by simp [hel, hi]
          rw [hxi] at this
          obtain ⟨cells, g1, g2⟩ := Option.bind_eq_some_iff.1 this
          obtain ⟨ds, g3, g4⟩ := read_all hcl hsp n e cells _ hc.1 g2 (fun m hm' => hwt m (by
            simp only [DataW.weights, hu]
            refine List.mem_cons_of_mem _ (List.mem_append_left _ (weightsAll_mem (d := (elems[i]'(by omega)).1) (List.mem_map_of_mem (List.getElem_mem _)) m hm'))))
          exact ⟨ds, g3, cells, g1, g4⟩)
        refine ⟨[.lst (P.cellsOf e) es], .row hu (fun r hr => ?_) (fun r hr => ?_) ?_, rfl, fun j d hj => ?_⟩
        · obtain ⟨i, hi⟩ := List.getElem?_of_mem hr
          exact (h2 i r hi).1
        · obtain ⟨i, hi⟩ := List.getElem?_of_mem hr
          obtain ⟨cells, g1, g2⟩ := (h2 i r hi).2
          rw [g2.1]
          exact (World.cells?_some g1).2.1
        · have := hwt _ (by simp only [DataW.weights, hu]; exact List.mem_cons_self)
          simp only [List.length_map] at this
          rw [h1, ← hel]
          exact Nat.le_trans (Nat.mul_le_mul_right _ (Nat.le_add_right _ _)) this
        · cases j <;> simp at hj
          subst hj
          refine ⟨_, rfl, rfl, ?_⟩
          rcases Nat.eq_zero_or_pos cap with q | q
          · have : len = 0 := by omega
            subst q this
            have : es = [] := List.eq_nil_of_length_eq_zero h1
            rw [this]
            exact .emp _ _
          · have hspot : a.spot = none := by
              rcases Nat.eq_zero_or_pos len with z | z
              · obtain ⟨r1, r2⟩ := hrs (hsp _)
                have := r2 0 (by omega)
                have hxi : rest[0]? = some (rest[0]'(by omega)) := by simp
                rw [hxi] at this
                obtain ⟨cells, g1, g2⟩ := Option.bind_eq_some_iff.1 this
                have := cells_spot hc.2 g1
                obtain ⟨b, o, sp⟩ := a
                simpa [Addr.add, z] using this
              · obtain ⟨_, cells, g1, _⟩ := h2 0 (es[0]'(by omega)) (by simp)
                have := cells_spot hc.2 g1
                obtain ⟨b, o, sp⟩ := a
                simpa [Addr.add] using this
            obtain ⟨b, o, sp⟩ := a
            simp only at hspot
            subst hspot
            rw [← h1]
            have key : ∀ (i : Nat) (r : List DV), es[i]? = some r → ∀ (j : Nat) (d : DV), r[j]? = some d → ∃ v, w.cell? ⟨b, o + i * P.cellsOf e + j, none⟩ = some v ∧ v.oneCell' = true ∧ RepD (allK w) d v := by
              intro i r hr j d hd
              obtain ⟨_, cells, g1, g2⟩ := h2 i r hr
              rw [addr_add] at g1
              obtain ⟨g3, g4⟩ := cells_at g1
              obtain ⟨v, g5, g6, g7⟩ := g2.2 j d hd
              have hj : j < P.cellsOf e := by rw [← g3]; exact (List.getElem?_eq_some_iff.1 g5).1
              exact ⟨v, by rw [g4 j hj]; exact g5, g6, g7⟩
            refine .lst _ es b o cap (fun i j => (w.cell? ⟨b, o + i * P.cellsOf e + j, none⟩).getD undef) (by omega) hcm (fun r hr => ?_) (fun i r hr j d hd => ?_) (fun i r hr j d hd => ?_) (fun i r hr j d hd => ?_)
            · obtain ⟨i, hi⟩ := List.getElem?_of_mem hr
              obtain ⟨cells, g1, g2⟩ := (h2 i r hi).2
              rw [g2.1]
              exact (World.cells?_some g1).2.1
            · obtain ⟨v, g1, g2, g3⟩ := key i r hr j d hd
              show w.cell? _ = _
              rw [g1]; rfl
            · obtain ⟨v, g1, g2, g3⟩ := key i r hr j d hd
              rw [g1]; exact g2
            · obtain ⟨v, g1, g2, g3⟩ := key i r hr j d hd
              rw [g1]; exact g3
    · rename_i fs hu
      simp only [Bool.and_eq_true, List.all_eq_true, List.contains_iff_mem] at hc
      obtain ⟨xs, m, hm, rfl, hlen, hxl, hf⟩ := DataW.trod_struct hu h
      obtain rfl : n = m := by omega
      obtain ⟨dss, h1, h2⟩ := list_choice (R := fun i ds => ∀ f, fs[i]? = some f → Shp P f.type ds ∧ ReadsAs (allK w) ds ((cs.drop f.offset).take (P.cellsOf f.type)) ∧ ((cs.drop f.offset).take (P.cellsOf f.type)).length = P.cellsOf f.type) fs.size (fun i hi => by
        have hfi : fs[i]? = some fs[i] := by simp [hi]
        have := hf i _ hfi
        have hxi : xs[i]? = some xs[i] := by simp [hxl, hi]
        rw [hxi] at this
        obtain ⟨ds, g1, g2⟩ := read_all hcl hsp n _ _ _ (hc.1 _ (by simp)) this (fun m hm' => hwt m (by
          simp only [DataW.weights, hu]
          exact DataW.weights_mem_each (j := i) (t := (fs[i]).type) (d := (xs[i]).1) (by simp [hi]) (by simp [hxl, hi]) m hm'))
        refine ⟨ds, fun f hf' => ?_⟩
        rw [hfi] at hf'
        obtain rfl := Option.some.inj hf'
        exact ⟨g1, g2, by have := (flatB_bound _ _ _ hc.2).2 i _ (by rw [Array.getElem?_toList]; exact hfi); simp; omega⟩)
      obtain ⟨_, h3⟩ := flat_reads (K := allK w) (cs := cs) fs.toList 0 (P.cellsOf t) dss hc.2 hlen (by simpa using h1) (fun i f ds hf' hd => by
        obtain ⟨g1, g2, g3⟩ := h2 i ds hd f (by simpa using hf')
        exact ⟨g2, by rw [g2.1, g3]⟩)
      exact ⟨dss.flatten, .agg hu h1 (fun i f ds hf' hd => (h2 i ds hd f hf').1), by simpa using h3⟩
    · cases hc
theorem Shp.int_inv {P : Program} {t : TypeId} {k : IntKind} {ds : List DV} (h : Shp P t ds) (hu : P.underlying t = some (.int k)) : ∃ n, ds = [.int k n] ∧ (Lit.int k n).wf = true := by
  cases h with
  | int h hw => rw [hu] at h; simp at h; subst h; exact ⟨_, rfl, hw⟩
  | bool h => rw [hu] at h; simp at h
  | str h hl => rw [hu] at h; simp at h
  | row h hs hl hz => rw [hu] at h; simp at h
  | agg h hl hs => rw [hu] at h; simp at h
theorem Shp.bool_inv {P : Program} {t : TypeId} {ds : List DV} (h : Shp P t ds) (hu : P.underlying t = some .bool) : ∃ b, ds = [.bool b] := by
  cases h with
  | int h hw => rw [hu] at h; simp at h
  | bool h => exact ⟨_, rfl⟩
  | str h hl => rw [hu] at h; simp at h
  | row h hs hl hz => rw [hu] at h; simp at h
  | agg h hl hs => rw [hu] at h; simp at h
theorem Shp.str_inv {P : Program} {t : TypeId} {ds : List DV} (h : Shp P t ds) (hu : P.underlying t = some .string) : ∃ s, ds = [.str s] ∧ s.length ≤ maxLen := by
  cases h with
  | int h hw => rw [hu] at h; simp at h
  | bool h => rw [hu] at h; simp at h
  | str h hl => exact ⟨_, rfl, hl⟩
  | row h hs hl hz => rw [hu] at h; simp at h
  | agg h hl hs => rw [hu] at h; simp at h
theorem Shp.row_inv {P : Program} {t e : TypeId} {ds : List DV} (h : Shp P t ds) (hu : P.underlying t = some (.slice e)) : ∃ es, ds = [.lst (P.cellsOf e) es] ∧ (∀ r ∈ es, Shp P e r) ∧ es.length * P.bytesOf e ≤ reachBytes := by
  cases h with
  | int h hw => rw [hu] at h; simp at h
  | bool h => rw [hu] at h; simp at h
  | str h hl => rw [hu] at h; simp at h
  | row h hs hl hz => rw [hu] at h; simp at h; subst h; exact ⟨_, rfl, hs, hz⟩
  | agg h hl hs => rw [hu] at h; simp at h
theorem Shp.agg_inv {P : Program} {t : TypeId} {fs : Array Field} {ds : List DV} (h : Shp P t ds) (hu : P.underlying t = some (.struct fs)) : ∃ dss : List (List DV), ds = dss.flatten ∧ dss.length = fs.size ∧ ∀ (i : Nat) (f : Field) (ds : List DV), fs[i]? = some f → dss[i]? = some ds → Shp P f.type ds := by
  cases h with
  | int h hw => rw [hu] at h; simp at h
  | bool h => rw [hu] at h; simp at h
  | str h hl => rw [hu] at h; simp at h
  | row h hs hl hz => rw [hu] at h; simp at h
  | agg h hl hs => rw [hu] at h; simp at h; subst h; exact ⟨_, rfl, hl, hs⟩
theorem all_map {α β : Type} {enc : α → β} : ∀ {es : List β}, (∀ r ∈ es, ∃ x, r = enc x) → ∃ l : List α, es = l.map enc
  | [], _ => ⟨[], rfl⟩
  | r :: es, h => by
    obtain ⟨x, rfl⟩ := h r (by simp)
    obtain ⟨l, rfl⟩ := all_map (es := es) (fun r hr => h r (by simp [hr]))
    exact ⟨x :: l, rfl⟩
def AllShp (P : Program) : List TypeId → List (List DV) → Prop
  | [], [] => True
  | t :: ts, d :: ds => Shp P t d ∧ AllShp P ts ds
  | _, _ => False
def fieldsT (P : Program) (t : TypeId) (ts : List TypeId) : Bool := match P.underlying t with
  | some (.struct fs) => fs.toList.map (·.type) == ts
  | _ => false
theorem AllShp_mk {P : Program} : ∀ (fs : List Field) (dss : List (List DV)), dss.length = fs.length → (∀ (i : Nat) (f : Field) (ds : List DV), fs[i]? = some f → dss[i]? = some ds → Shp P f.type ds) → AllShp P (fs.map (·.type)) dss
  | [], [], _, _ => trivial
  | f :: fs, d :: ds, hl, h => ⟨h 0 f d rfl rfl, AllShp_mk fs ds (by simpa using hl) (fun i g e hg he => h (i + 1) g e (by simpa using hg) (by simpa using he))⟩
  | [], _ :: _, hl, _ => by simp at hl
  | _ :: _, [], hl, _ => by simp at hl
theorem Shp.agg_ts {P : Program} {t : TypeId} {ts : List TypeId} {ds : List DV} (h : Shp P t ds) (hb : fieldsT P t ts = true) : ∃ dss : List (List DV), ds = dss.flatten ∧ AllShp P ts dss := by
  unfold fieldsT at hb
  split at hb
  · rename_i fs hu
    obtain ⟨dss, h1, h2, h3⟩ := h.agg_inv hu
    simp only [beq_iff_eq] at hb
    subst hb
    exact ⟨dss, h1, AllShp_mk _ _ (by simpa using h2) (fun i f ds hf hd => h3 i f ds (by simpa using hf) hd)⟩
  · cases hb
theorem AllShp.cons_inv {P : Program} {t : TypeId} {ts : List TypeId} {dss : List (List DV)} (h : AllShp P (t :: ts) dss) : ∃ d r, dss = d :: r ∧ Shp P t d ∧ AllShp P ts r := by
  cases dss with
  | nil => cases h
  | cons d r => exact ⟨d, r, rfl, h.1, h.2⟩
theorem AllShp.nil_inv {P : Program} {dss : List (List DV)} (h : AllShp P [] dss) : dss = [] := by
  cases dss with
  | nil => rfl
  | cons d r => cases h
end Go.Proofs.YtbeafnkcimfeeaaGreatDoor.AM
/- The abstract machine (22): calls by names of one's own; rows that are not written any more. -/
namespace Go.Proofs.YtbeafnkcimfeeaaGreatDoor.AM
set_option linter.unusedVariables false
set_option linter.unusedSimpArgs false
open Go.RowKit
set_option linter.unusedVariables false
set_option linter.unusedSimpArgs false
set_option linter.unusedSectionVars false
def rk : List (Key × Key) → Key → Key
  | [], k => k
  | (a, b) :: r, k => if k = a then b else rk r k
theorem rk_mem : ∀ {l : List (Key × Key)} {k : Key}, k ∈ l.map (·.1) → (k, rk l k) ∈ l
  | [], k, h => by simp at h
  | (a, b) :: r, k, h => by
    unfold rk
    split
    · rename_i q; subst q; exact List.mem_cons_self
    · rename_i q
      simp only [List.map_cons, List.mem_cons] at h
      exact List.mem_cons_of_mem _ (rk_mem (h.resolve_left q))
theorem rk_inj {l : List (Key × Key)} (h : (l.map (·.2)).Nodup) {k k' : Key} (hk : k ∈ l.map (·.1)) (hk' : k' ∈ l.map (·.1)) (e : rk l k = rk l k') : k = k' := by
  have h1 := rk_mem hk
  have h2 := rk_mem hk'
  rw [← e] at h2
  clear e hk hk'
  generalize rk l k = b at h1 h2
  induction l with
  | nil => simp at h1
  | cons p r ih =>
    simp only [List.map_cons, List.nodup_cons] at h
    rcases List.mem_cons.1 h1 with q1 | q1 <;> rcases List.mem_cons.1 h2 with q2 | q2
    · rw [← q1] at q2; exact (Prod.mk.inj q2).1.symm
    · exact absurd (List.mem_map_of_mem (f := (·.2)) q2) (by rw [← q1] at h; exact h.1)
    · exact absurd (List.mem_map_of_mem (f := (·.2)) q1) (by rw [← q2] at h; exact h.1)
    · exact ih h.2 q1 q2
section
variable {P : Program} {T : Tab}
theorem CallE_can (hT : ∀ t i, T t = some i → i.Good P t) (hm : P.follows .mixedOrders = true) {g : FuncId} {fn : Func} {code : Code} {args args0 : List PV} {rdm mem0 : List (Key × List PV)} {lv0 kept drop : List Key} (l : List (Key × Key)) {d ep : Nat} {e : Eff}
    (hf : P.funcs[g]? = some fn) (hb : fn.body = some code) (he : EnterOk P g) (hn : args0.length ≤ fn.ntmps)
    (hl : mem0.map (·.1) ++ lv0 = l.map (·.1)) (hnd : (l.map (·.2)).Nodup) (hep : (l.all fun p => p.1.2.2 == 0) = true)
    (hkd : (((mem0.map (·.1)).all fun k => kept.contains k || drop.contains k) && ((kept ++ drop).all fun k => (mem0.map (·.1)).contains k)) = true)
    (hA : renL (kout (rk l) (mem0.map (·.1) ++ lv0) fun _ => none) args0 = args) (hR : mem0.map (fun p => (rk l p.1, renL (kout (rk l) (mem0.map (·.1) ++ lv0) fun _ => none) p.2)) = rdm)
    (hinA : inL (fun k => (mem0.map (·.1)).contains k) (fun k => lv0.contains k) args0 = true) (hinM : (mem0.all fun p => inL (fun k => (mem0.map (·.1)).contains k) (fun k => lv0.contains k) p.2) = true)
    (hrd : e.rd = rdm.map (·.1)) (huse : e.use = lv0.map (rk l)) (hrm : e.rm = drop.map (rk l))
    (h : AWp P T fn.ntmps code (fnEQ T fn d ep (rk l) kept e) ⟨initP 0 args0, mem0, lv0.map (fun τ => (τ, true)), 0⟩) :
    CallE P g args rdm d ep e := by
  refine CallE_of hT hm hf hb he hn (fun k hk k' hk' e' => ?_) (fun k hk => ?_) (fun k => ?_) hA hR hinA hinM hrd huse hrm h
  · rw [hl] at hk hk'
    exact rk_inj hnd hk hk' e'
  · rw [hl] at hk
    obtain ⟨p, hp, rfl⟩ := List.mem_map.1 hk
    have := List.all_eq_true.1 hep p hp
    simpa using this
  · simp only [Bool.and_eq_true, List.all_eq_true, Bool.or_eq_true, List.contains_iff_mem] at hkd
    exact ⟨fun h => hkd.1 k h, fun h => hkd.2 k (List.mem_append.2 h)⟩
theorem eq_n {fn : Func} {d ep : Nat} {ρ : Key → Key} {kept : List Key} {e : Eff} {s : LSt} (h : fnE0 T fn d ep ρ kept e s) : fnEQ T fn d ep ρ kept e .normal s := ⟨s, .refl s, h⟩
theorem eq_r {fn : Func} {d ep : Nat} {ρ : Key → Key} {kept : List Key} {e : Eff} {s : LSt} (h : fnE0 T fn d ep ρ kept e s) : fnEQ T fn d ep ρ kept e .ret s := ⟨s, .refl s, h⟩
theorem cE {ops : Array Oper} {l : List Oper} {env : List (Nat × PV)} {mem mem1 mem2 : List (Key × List PV)} {live live1 : List (Key × Bool)} {ep d : Nat} {K : LSt → List Eff → Prop} {g : FuncId} {as : Array Operand} {ts : Array TypeId} {ty : TypeId} {pos : String} {after : Array Edge} {args : List PV} {rdm : List (Key × List PV)} {e : Eff}
    (hE : CallE P g args rdm d ep e) (h : argsP (LSt.mk env mem live ep).den as.toList = some args) (hm : entM rdm mem) (hu : entU e.use live) (hr : delM e.rm mem = mem1)
    (h2 : pushM e.wr (pushM (e.alKeys d ep) mem1) = mem2) (h3 : pushB true (e.nwKeys d ep) (pushB false e.use live) = live1)
    (hk : RunL P T ops l ⟨(d, e.val) :: env, mem2, live1, ep⟩ fun s' es => K s' (e :: es)) : RunL P T ops ({ dst := some d, op := .call { callee := .value (.func g), args := as, argTypes := ts }, type := ty, pos := pos, after := after, guard := none } :: l) ⟨env, mem, live, ep⟩ K := by
  subst h2 h3
  refine rl_callE hE rfl rfl (args' := args) ?_ rfl hm hu hr hk
  simp only [opOut, h, evalO, List.append_nil, List.nil_append]
/-! ### A row that is not written any more -/
theorem Upd.trans {a b c : LSt} (h : Upd a b) (k : Upd b c) : Upd a c := fun N fp w0 K0 x w cf hs => let ⟨c', h'⟩ := h N fp w0 K0 x w cf hs; k N fp w0 K0 x w c' h'
theorem Upd.le {a b : LSt} (h : b.le a) : Upd a b := fun N fp w0 K0 x w cf hs => ⟨cf, hs.weak h⟩
end
end Go.Proofs.YtbeafnkcimfeeaaGreatDoor.AM
/- The abstract machine (23): what a call gives may be written; what may be written is lent to a call. -/
namespace Go.Proofs.YtbeafnkcimfeeaaGreatDoor.AM
set_option linter.unusedVariables false
set_option linter.unusedSimpArgs false
open Go.RowKit
set_option linter.unusedVariables false
set_option linter.unusedSimpArgs false
set_option linter.unusedSectionVars false
mutual
def freeD : DV → Bool
  | .int _ _ => true
  | .bool _ => true
  | .str _ => true
  | .nilI => true
  | .nil _ => true
  | .ifc _ d => freeD d
  | .agg cs => freeL cs
  | .tup cs => freeL cs
  | _ => false
def freeL : List DV → Bool
  | [] => true
  | d :: r => freeD d && freeL r
end
theorem freeL_get : ∀ {l : List DV} {j : Nat} {d : DV}, freeL l = true → l[j]? = some d → freeD d = true
  | [], _, _, _, h => by simp at h
  | a :: r, 0, d, h, hj => by simp [freeL] at h hj; subst hj; exact h.1
  | a :: r, j + 1, d, h, hj => by simp [freeL] at h hj; exact freeL_get h.2 hj
theorem RepD.free {K K' : Known} {d : DV} {v : Value} (r : RepD K d v) : freeD d = true → RepD K' d v := by
  induction r with
  | int => exact fun _ => .int _ _
  | bool => exact fun _ => .bool _
  | str l h => exact fun _ => .str l h
  | nil => exact fun _ => .nil _
  | nils => intro h; simp [freeD] at h
  | emp sz a => intro h; simp [freeD] at h
  | lst sz es b o cap f h1 h2 hs hk ho hr ih => intro h; simp [freeD] at h
  | nilI => exact fun _ => .nilI
  | ifc t d v _ ih => intro h; simp [freeD] at h; exact .ifc t d v (ih h)
  | agg cs vs hl ho _ ih => intro h; rw [freeD] at h; exact .agg cs vs hl ho (fun j d hj => ih j d hj (freeL_get h hj))
  | tup cs vs hl _ ih => intro h; rw [freeD] at h; exact .tup cs vs hl (fun j d hj => ih j d hj (freeL_get h hj))
  | ip cs off b o f hk ho _ ih => intro h; simp [freeD] at h
  | raw v => intro h; simp [freeD] at h
def argQ : List PV → List PV → Prop
  | [], [] => True
  | u :: r, v :: l => (u = v ∨ ∃ x, v = .dat x ∧ argOk [u] [x]) ∧ argQ r l
  | _, _ => False
theorem argQ_sound {c : Cfg} : ∀ {us vs : List PV}, argQ us vs → us.length = vs.length ∧ ∀ (j : Nat) (v : PV), vs[j]? = some v → ∃ u, us[j]? = some u ∧ ∀ y, RepP c u y → RepP c v y
  | [], [], _ => ⟨rfl, fun j v hj => by simp at hj⟩
  | u :: r, v :: l, h => by
    obtain ⟨h1, h2⟩ := h
    obtain ⟨h3, h4⟩ := argQ_sound h2
    refine ⟨by simp [h3], fun j v' hj => ?_⟩
    cases j with
    | zero =>
      simp at hj
      subst hj
      refine ⟨u, rfl, fun y hy => ?_⟩
      rcases h1 with rfl | ⟨x, rfl, hx⟩
      · exact hy
      · exact .dat _ _ (argOk_one hx hy)
    | succ j => exact h4 j v' (by simpa using hj)
  | [], _ :: _, h => h.elim
  | _ :: _, [], h => h.elim
theorem CallE.args {P : Program} {g : FuncId} {us vs : List PV} {rdm : List (Key × List PV)} {d ep : Nat} {e : Eff} (hE : CallE P g vs rdm d ep e) (h : argQ us vs) : CallE P g us rdm d ep e := by
  refine ⟨hE.1, hE.2.1, fun σ w c xs hep hmem hu hs hfa hx => hE.2.2 σ w c xs hep hmem hu hs hfa ?_⟩
  obtain ⟨h1, h2⟩ := argQ_sound (c := c) h
  refine ⟨by rw [hx.1, h1], fun j v hj => ?_⟩
  obtain ⟨u, h3, h4⟩ := h2 j v hj
  exact h4 _ (hx.2 j u h3)
section
variable {P : Program} {T : Tab}
theorem cEq {ops : Array Oper} {l : List Oper} {env : List (Nat × PV)} {mem mem1 mem2 : List (Key × List PV)} {live live1 : List (Key × Bool)} {ep d : Nat} {K : LSt → List Eff → Prop} {g : FuncId} {as : Array Operand} {ts : Array TypeId} {ty : TypeId} {pos : String} {after : Array Edge} {args us : List PV} {rdm : List (Key × List PV)} {e : Eff}
    (hE : CallE P g args rdm d ep e) (h : argsP (LSt.mk env mem live ep).den as.toList = some us) (hq : argQ us args) (hm : entM rdm mem) (hu : entU e.use live) (hr : delM e.rm mem = mem1)
    (h2 : pushM e.wr (pushM (e.alKeys d ep) mem1) = mem2) (h3 : pushB true (e.nwKeys d ep) (pushB false e.use live) = live1)
    (hk : RunL P T ops l ⟨(d, e.val) :: env, mem2, live1, ep⟩ fun s' es => K s' (e :: es)) : RunL P T ops ({ dst := some d, op := .call { callee := .value (.func g), args := as, argTypes := ts }, type := ty, pos := pos, after := after, guard := none } :: l) ⟨env, mem, live, ep⟩ K :=
  cE (hE.args hq) h hm hu hr h2 h3 hk
end
theorem flatP_dat : ∀ {es : List (List DV)} {p : PV}, p ∈ flatP es → ∃ d, p = .dat d := by
  intro es p hp
  unfold flatP at hp
  rw [List.mem_flatten] at hp
  obtain ⟨l, h1, h2⟩ := hp
  rw [List.mem_map] at h1
  obtain ⟨r, _, rfl⟩ := h1
  rw [List.mem_map] at h2
  obtain ⟨d, _, rfl⟩ := h2
  exact ⟨d, rfl⟩
theorem renL_dat {f : Key → Option Key} : ∀ {l : List PV}, (∀ p ∈ l, ∃ d, p = .dat d) → renL f l = l
  | [], _ => by simp [renL]
  | v :: r, h => by
    obtain ⟨d, rfl⟩ := h v (by simp)
    rw [renL, ren, renL_dat (fun p hp => h p (by simp [hp]))]
theorem inL_dat {S L : Key → Bool} : ∀ {l : List PV}, (∀ p ∈ l, ∃ d, p = .dat d) → inL S L l = true
  | [], _ => by simp [inL]
  | v :: r, h => by
    obtain ⟨d, rfl⟩ := h v (by simp)
    rw [inL, inP, inL_dat (fun p hp => h p (by simp [hp]))]; rfl
theorem renL_flat {f : Key → Option Key} (es : List (List DV)) : renL f (flatP es) = flatP es := renL_dat fun p hp => flatP_dat hp
theorem inL_flat {S L : Key → Bool} (es : List (List DV)) : inL S L (flatP es) = true := inL_dat fun p hp => flatP_dat hp
end Go.Proofs.YtbeafnkcimfeeaaGreatDoor.AM
