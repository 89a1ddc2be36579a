/- Contracts of the functions and their models, by the abstract machine. -/
import Derived.Test.YtbeafnkcimfeeaaGreatDoorAm1
/- The abstract machine (9): struct and row literals, append; then every operation in one theorem. -/
namespace Go.Proofs.YtbeafnkcimfeeaaGreatDoor.AM
set_option linter.unusedVariables false
set_option linter.unusedSimpArgs false
open Go.RowKit
set_option linter.unusedVariables false
set_option linter.unusedSimpArgs false
set_option linter.unusedSectionVars false
theorem foldl_set (off : Nat) : ∀ (vs : List Value) (k : Nat) (cells : Array Value), off + k + vs.length ≤ cells.size →
    ((vs.zipIdx k).foldl (fun cs (p : Value × Nat) => cs.setIfInBounds (off + p.2) p.1) cells).size = cells.size ∧
    ∀ q, ((vs.zipIdx k).foldl (fun cs (p : Value × Nat) => cs.setIfInBounds (off + p.2) p.1) cells)[q]? = if off + k ≤ q ∧ q < off + k + vs.length then vs[q - (off + k)]? else cells[q]?
  | [], k, cells, h => by
    refine ⟨rfl, fun q => ?_⟩
    rw [if_neg (by simp)]
    rfl
  | v :: r, k, cells, h => by
    simp only [List.length_cons] at h
    simp only [List.zipIdx_cons, List.foldl_cons]
    obtain ⟨h1, h2⟩ := foldl_set off r (k + 1) (cells.setIfInBounds (off + k) v) (by simp; omega)
    refine ⟨by rw [h1]; simp, fun q => ?_⟩
    rw [h2 q]
    by_cases hq : q = off + k
    · subst hq
      rw [if_neg (by omega), if_pos (by simp)]
      simp [show off + k < cells.size by omega]
    · by_cases hq2 : off + k ≤ q ∧ q < off + k + (r.length + 1)
      · rw [if_pos (by omega), if_pos (by simpa using hq2)]
        rw [show q - (off + k) = (q - (off + (k + 1))) + 1 by omega, List.getElem?_cons_succ]
      · rw [if_neg (by omega), if_neg (by simpa using hq2)]
        rw [Array.getElem?_setIfInBounds_ne (fun e => hq e.symm)]
theorem fill_cons {place : Nat → Option (Nat × Nat)} {cells : Array Value} {i off size : Nat} {v : Value} {rest : List (Nat × Value)} (hp : place i = some (off, size)) (hs : v.cells.size = size) (hb : off + size ≤ cells.size) :
    Instr.fill place cells ((i, v) :: rest) = Instr.fill place (v.cells.toList.zipIdx.foldl (fun cs (p : Value × Nat) => cs.setIfInBounds (off + p.2) p.1) cells) rest := by
  simp only [Instr.fill, hp]
  rw [if_neg (by simp [hs]; omega)]
  congr 1
  rw [← Array.foldl_toList, Array.toList_zipIdx]
theorem flatP_get : ∀ {ys : List (List DV)} {sz : Nat}, (∀ r ∈ ys, r.length = sz) → (flatP ys).length = ys.length * sz ∧ ∀ (j : Nat) (p : PV), (flatP ys)[j]? = some p → ∃ r d, ys[j / sz]? = some r ∧ r[j % sz]? = some d ∧ p = .dat d
  | [], sz, _ => ⟨by simp [flatP], fun j p hp => by simp [flatP] at hp⟩
  | r :: ys, sz, h => by
    obtain ⟨h1, h2⟩ := flatP_get (ys := ys) (sz := sz) (fun r hr => h r (by simp [hr]))
    have hr : r.length = sz := h r (by simp)
    have e : flatP (r :: ys) = r.map .dat ++ flatP ys := rfl
    refine ⟨by rw [e, List.length_append, h1, List.length_map, hr, List.length_cons, Nat.succ_mul, Nat.add_comm], fun j p hp => ?_⟩
    rw [e, List.getElem?_append] at hp
    split at hp
    · rename_i hlt
      rw [List.length_map, hr] at hlt
      simp only [List.getElem?_map, Option.map_eq_some_iff] at hp
      obtain ⟨d, hd, rfl⟩ := hp
      exact ⟨r, d, by rw [Nat.div_eq_of_lt hlt]; rfl, by rw [Nat.mod_eq_of_lt hlt]; exact hd, rfl⟩
    · rename_i hlt
      rw [List.length_map, hr] at hlt hp
      obtain ⟨r', d, g1, g2, g3⟩ := h2 _ p hp
      have hpos : 0 < sz := by
        rcases Nat.eq_zero_or_pos sz with q | q
        · subst q
          have : (flatP ys).length = 0 := by rw [h1, Nat.mul_zero]
          have h4 := (List.getElem?_eq_some_iff.1 hp).1
          omega
        · exact q
      refine ⟨r', d, ?_, ?_, g3⟩
      · rw [Nat.div_eq_sub_div hpos (by omega), List.getElem?_cons_succ]; exact g1
      · rw [Nat.mod_eq_sub_mod (by omega)]; exact g2
section
variable {P : Program} {T : Tab} {o : Oper} {σ : St} {a : Act} {w : World} {c : Cfg} {e : Eff} {K : Act → World → Prop} {Q : Exit → Act → World → Prop}
theorem fill_layP (he : EnvOk σ a c) {fs : List (Nat × Nat × Bool)} {place : Nat → Option (Nat × Nat)} (hp : ∀ (k off sz : Nat) (ag : Bool), fs[k]? = some (off, sz, ag) → place k = some (off, sz)) :
    ∀ (parts : List (Nat × Operand)) (cs cs' : List PV) (cells : Array Value), layP fs σ parts cs = some cs' → cells.size = cs.length →
      (∀ (j : Nat) (p : PV), cs[j]? = some p → (cells.getD j undef).oneCell' = true ∧ RepP c p (cells.getD j undef)) →
      ∃ cells', Instr.fill place cells (parts.map fun p => (p.1, a.eval p.2)) = some cells' ∧ cells'.size = cs'.length ∧
        ∀ (j : Nat) (p : PV), cs'[j]? = some p → (cells'.getD j undef).oneCell' = true ∧ RepP c p (cells'.getD j undef)
  | [], cs, cs', cells, h, hl, hr => by
    simp [layP] at h
    subst h
    exact ⟨cells, rfl, hl, hr⟩
  | (k, x) :: rest, cs, cs', cells, h, hl, hr => by
    simp only [layP] at h
    split at h
    · rename_i off sz ag v hf hv
      split at h
      · rename_i new hc
        split at h
        · rename_i hb
          obtain ⟨h1, h2, h3⟩ := cellsT_sound (evalO_sound he hv) hc
          simp only at h1 h2
          obtain ⟨h4, h5⟩ := foldl_set off (a.eval x).cells.toList 0 cells (by simp [h1]; omega)
          have hnew : ∀ (j : Nat) (p : PV), (setR cs off new)[j]? = some p → (((a.eval x).cells.toList.zipIdx.foldl (fun cs (p : Value × Nat) => cs.setIfInBounds (off + p.2) p.1) cells).getD j undef).oneCell' = true ∧
              RepP c p (((a.eval x).cells.toList.zipIdx.foldl (fun cs (p : Value × Nat) => cs.setIfInBounds (off + p.2) p.1) cells).getD j undef) := by
            intro j p hj
            rw [getElem?_setR _ _ _ _ hb] at hj
            have h5' := h5 j
            simp only [Nat.add_zero, Array.length_toList, h1] at h5'
            rw [h2] at hj
            split at hj
            · rename_i hc2
              rw [if_pos hc2] at h5'
              obtain ⟨y, g1, g2, g3⟩ := h3 _ _ hj
              rw [Array.getElem?_toList, g1] at h5'
              rw [getD_of_some h5']
              exact ⟨g2, g3⟩
            · rename_i hc2
              rw [if_neg hc2] at h5'
              have hlt : j < cells.size := by rw [hl]; exact (List.getElem?_eq_some_iff.1 hj).1
              rw [some_of_lt undef hlt] at h5'
              rw [getD_of_some h5']
              exact hr j p hj
          obtain ⟨cells', h6, h7, h8⟩ := fill_layP he hp rest (setR cs off new) cs' _ h (by rw [h4, hl]; simp [setR]; omega) hnew
          exact ⟨cells', by rw [List.map_cons, fill_cons (hp _ _ _ _ hf) h1 (by omega)]; exact h6, h7, h8⟩
        · simp at h
      · simp at h
    · simp at h
theorem run_mapM_places {fields : Array Field} {g : Field → Nat} (h : ∀ f ∈ fields.toList, (sizeOf f.type).run P w = .ok (g f) w) :
    (fields.mapM fun f => do pure (f.offset, ← sizeOf f.type) : Sem (Array (Nat × Nat))).run P w = .ok (fields.map fun f => (f.offset, g f)) w := by
  rw [Array.mapM_eq_mapM_toList, Sem.run_map]
  have : ∀ l : List Field, (∀ f ∈ l, (sizeOf f.type).run P w = .ok (g f) w) → (l.mapM fun f => do pure (f.offset, ← sizeOf f.type) : Sem (List (Nat × Nat))).run P w = .ok (l.map fun f => (f.offset, g f)) w := by
    intro l
    induction l with
    | nil => intro _; simp
    | cons f r ih =>
      intro hl
      rw [List.mapM_cons]
      simp only [Sem.run_bind, hl f (by simp), Result.andThen_ok, Sem.run_pure, ih (fun f hf => hl f (by simp [hf])), List.map_cons]
  rw [this fields.toList h]
  simp only [Result.andThen_ok]
  congr 1
  apply Array.ext'
  simp
variable (hs : HS σ w c) (he : EnvOk σ a c)
include hs he
theorem sound_build {m : Bool} (hT : ∀ t i, T t = some i → i.Good P t) {t : TypeId} {i : TyI} {parts : Array (Nat × Operand)} {fs : List (Nat × Nat × Bool)} {cs : List PV} (ho : o.op = .build t parts) (hi : T t = some i) (hty : i.ty = .struct fs)
    (hc : layP fs σ parts.toList (i.zero.map .dat) = some cs) (hn : Next σ o a w c K { val := collect m cs }) : o.wp P a w K Q := by
  obtain ⟨fields, h1, hl, h2⟩ := und_struct hT (show tyOf T t = .struct fs by simp [tyOf, hi, hty])
  obtain ⟨inf, z, g1, g2, g3, g4, g5, g6, g7, _⟩ := (hT t i hi).info
  obtain ⟨zc, rfl⟩ := g7 (by simp [TyI.isAgg, hty])
  let g : Field → Nat := fun f => ((P.info? f.type).map (·.size)).getD 0
  have hsz : ∀ f ∈ fields.toList, (sizeOf f.type).run P w = .ok (g f) w := by
    intro f hf
    obtain ⟨k, hk⟩ := List.mem_iff_getElem?.1 hf
    simp only [Array.getElem?_toList] at hk
    have hlt : k < fs.length := by rw [hl]; exact (Array.getElem?_eq_some_iff.1 hk).1
    obtain ⟨f', h3, _, _, ⟨inf', h4, _⟩, _⟩ := h2 k fs[k].1 fs[k].2.1 fs[k].2.2 (by simp [hlt])
    rw [hk] at h3; cases h3
    rw [run_sizeOf_info h4]; simp [g, h4]
  have hm := run_mapM_places (P := P) (w := w) hsz
  have hplace : ∀ (k off sz : Nat) (ag : Bool), fs[k]? = some (off, sz, ag) → (fun i => (fields.map fun f => (f.offset, g f))[i]?) k = some (off, sz) := by
    intro k off sz ag hk
    obtain ⟨f', h3, h4, _, ⟨inf', h5, h6⟩, _⟩ := h2 k off sz ag hk
    simp [h3, h4, g, h5, h6]
  obtain ⟨cells', h6, h7, h8⟩ := fill_layP he hplace parts.toList (i.zero.map .dat) cs zc hc (by simpa [Value.cells, g5] using g4) (fun j p hj => by
    simp only [List.getElem?_map, Option.map_eq_some_iff] at hj
    obtain ⟨d, hd, rfl⟩ := hj
    exact ⟨(g6 j d hd).1, .dat _ _ ((g6 j d hd).2 _)⟩)
  refine wp_value (rd := []) hs (x := .agg cells') ?_ (collect_sound h7 h8) hn
  have hparts : (parts.map fun (x : Nat × Operand) => (x.1, a.eval x.2)).toList = parts.toList.map fun p => (p.1, a.eval p.2) := by simp
  simp only [execOp, ho]
  apply run_v
  simp only [Instr.build, Sem.run_bind, zeroValue, typeInfo, run_program, Result.andThen_ok, g1, Sem.run_pure, g3, run_underlying h1, hm, Value.cells, hparts, h6]
theorem sound_buildSlice (hT : ∀ t i, T t = some i → i.Good P t) {t e : TypeId} {i : TyI} {n sz bytes : Nat} {parts : Array (Nat × Operand)} {es : List (List DV)} {d : Nat} (ho : o.op = .buildSlice t n parts) (hd : o.dst = some d) (ht : tyOf T t = .slice e sz bytes) (hi : T e = some i)
    (hsz : i.size = sz) (hpn : parts.size = n) (h24 : n * sz ≤ 2 ^ 24) (hes : rowsP i σ parts.toList 0 = some es) (hf : c.O (d, 0, σ.ep) = none) (hfM : c.M (d, 0, σ.ep) = none) (hn : Next σ o a w c K { val := .acc (d, 0, σ.ep) sz es, nw := [0] }) : o.wp P a w K Q := by
  obtain ⟨h1, h2, ie, z, h3, h4, h5, h6, h7⟩ := und_slice hT ht
  have key : ∀ (parts : List (Nat × Operand)) (n0 : Nat) (es : List (List DV)) (cells : Array Value), rowsP i σ parts n0 = some es → (n0 + parts.length) * sz ≤ cells.size →
      ∃ cells', Instr.fill (fun i => some (i * sz, sz)) cells (parts.map fun p => (p.1, a.eval p.2)) = some cells' ∧ cells'.size = cells.size ∧ (∀ q, q < n0 * sz → cells'[q]? = cells[q]?) ∧ es.length = parts.length ∧ (∀ r ∈ es, r.length = sz) ∧
        ∀ (i : Nat) (r : List DV), es[i]? = some r → ∀ (j : Nat) (d : DV), r[j]? = some d → ∃ y, cells'[(n0 + i) * sz + j]? = some y ∧ y.oneCell' = true ∧ RepD c.K d y := by
    intro parts
    induction parts with
    | nil => intro n0 es cells h hb; simp [rowsP] at h; subst h; exact ⟨cells, rfl, rfl, fun _ _ => rfl, rfl, by simp, fun i r hr => by simp at hr⟩
    | cons p rest ih =>
      obtain ⟨k, x⟩ := p
      intro n0 es cells h hb
      simp only [rowsP] at h
      split at h
      · rename_i hk
        subst hk
        split at h
        · rename_i cs hcs
          split at h
          · rename_i ds l hds hl
            simp at h
            subst h
            simp only [Option.bind_eq_some_iff] at hcs
            obtain ⟨v, hv, hc⟩ := hcs
            obtain ⟨g1, g2, g3⟩ := cellsT_sound (evalO_sound he hv) hc
            obtain ⟨g4, g5⟩ := allD_sound hds
            rw [hsz] at g1 g2
            have hb2 : k * sz + sz ≤ cells.size := by
              have : k * sz + sz = (k + 1) * sz := (Nat.succ_mul k sz).symm
              refine Nat.le_trans ?_ hb
              rw [this]
              exact Nat.mul_le_mul_right _ (by simp)
            obtain ⟨h8, h9⟩ := foldl_set (k * sz) (a.eval x).cells.toList 0 cells (by simp [g1]; omega)
            obtain ⟨cells', q1, q2, q3, q4, q5, q6⟩ := ih (k + 1) l _ hl (by rw [h8]; simpa [Nat.add_assoc, Nat.add_comm 1] using hb)
            refine ⟨cells', ?_, q2.trans h8, fun q hq => ?_, by simp [q4], fun r hr => ?_, fun i r hr j dd hdd => ?_⟩
            · rw [List.map_cons, fill_cons rfl g1 hb2]; exact q1
            · rw [q3 q (by rw [Nat.succ_mul]; omega), h9 q, if_neg (by omega)]
            · simp only [List.mem_cons] at hr
              rcases hr with rfl | hr
              · simp [g4, g2]
              · exact q5 r hr
            · cases i with
              | zero =>
                simp only [List.getElem?_cons_zero, Option.some.injEq] at hr
                subst hr
                simp only [List.getElem?_map, Option.map_eq_some_iff] at hdd
                obtain ⟨d0, hd0, rfl⟩ := hdd
                obtain ⟨pv, hpv, had⟩ := g5 j d0 hd0
                obtain ⟨y, g6, g7, g8⟩ := g3 j pv hpv
                have hj : j < sz := by rw [← g2]; exact (List.getElem?_eq_some_iff.1 hpv).1
                refine ⟨y, ?_, g7, norm1_sound (asD_sound g8 had)⟩
                rw [Nat.add_zero, q3 _ (by rw [Nat.succ_mul]; omega), h9, if_pos (by simp [g1]; omega)]
                simp only [Nat.add_zero, Nat.add_sub_cancel_left]
                simpa using g6
              | succ i =>
                have := q6 i r (by simpa using hr) j dd hdd
                rw [show k + (i + 1) = k + 1 + i by omega]
                exact this
          · simp at h
        · simp at h
      · simp at h
  have hlen : parts.toList.length = n := by simpa using hpn
  obtain ⟨zc, hzc1, hzc2⟩ : ∃ zc : Array Value, (n * sz = 0 → zc = #[]) ∧ (n * sz ≠ 0 → zc = z.cells) := ⟨if n * sz = 0 then #[] else z.cells, fun h => if_pos h, fun h => if_neg h⟩
  obtain ⟨cells', q1, q2, q3, q4, q5, q6⟩ := key parts.toList 0 es ((Array.range (n * sz)).map (zc[· % zc.size]!)) hes (by simp [hpn])
  have hcs : cells'.size = n * sz := by rw [q2]; simp
  have hn63 : n ≤ maxLen := by
    have : n * 1 ≤ n * sz := Nat.mul_le_mul_left _ h2
    simp only [maxLen]; omega
  have hrun : (execOp a.eval o).run P w = .ok (.value (.slice (some ⟨w.heap.size, 0, none⟩) n n)) (w.alloc (.cells cells' e)) := by
    simp only [execOp, ho]
    apply run_v
    have hparts : (parts.map fun (x : Nat × Operand) => (x.1, a.eval x.2)).toList = parts.toList.map fun p => (p.1, a.eval p.2) := by simp
    have h24' : ¬ (n * sz > 2 ^ 24) := by omega
    simp only [Instr.buildSlice, Sem.run_bind, run_underlying h1, Result.andThen_ok, run_sizeOf_info h3, h4, h24', if_false, hparts]
    by_cases hz : n * sz = 0
    · rw [hzc1 hz] at q1
      rw [if_pos hz]
      simp only [Sem.run_bind, Sem.run_pure, Result.andThen_ok]
      rw [q1]
      simp [newRow]
    · rw [hzc2 hz] at q1
      rw [if_neg hz]
      simp only [Sem.run_bind, zeroValue, typeInfo, run_program, Result.andThen_ok, h3, h6, Sem.run_pure]
      rw [q1]
      simp [newRow]
  have hrow := stepF_row hs d (.acc (d, 0, σ.ep) sz es) [] e e sz 0 n (.slice none 0 0) (.slice (some ⟨w.heap.size, 0, none⟩) n n) [] cells'.toList hf (World.ownsRow_nil w 0 e sz)
    (World.ownsRow_lit w cells' n (Nat.zero_le _) hn63 hcs) ⟨_, rfl⟩ (.inr ⟨rfl, World.grownBy_alloc w _ none⟩) hfM (fun g hg => by simp [Value.ownBlock] at hg)
  have hel : es.length = n := by rw [q4]; exact hlen
  refine wp_of_run hrun (hn _ _ _ ?_ (by rw [hd]; exact hrow.1))
  refine .acc _ _ _ _ e (upd_same _ _ _) ?_
  rw [← hel]
  have hget : ∀ (i : Nat) (r : List DV), es[i]? = some r → ∀ (j : Nat) (dd : DV), r[j]? = some dd → cells'.toList[i * sz + j]? = some (cells'.getD (i * sz + j) undef) ∧ (cells'.getD (i * sz + j) undef).oneCell' = true ∧ RepD c.K dd (cells'.getD (i * sz + j) undef) := by
    intro i r hr j dd hj
    obtain ⟨y, y1, y2, y3⟩ := q6 i r hr j dd hj
    rw [Nat.zero_add] at y1
    rw [getD_of_some y1]
    exact ⟨by simpa using y1, y2, y3⟩
  refine .lst _ _ _ _ _ (fun i j => cells'.getD (i * sz + j) undef) (Nat.le_refl _) (by rw [hel]; exact hn63) q5 (fun i r hr j dd hj => ?_) (fun i r hr j dd hj => (hget i r hr j dd hj).2.1) (fun i r hr j dd hj => ?_)
  · show rowK c.K (.slice (some ⟨w.heap.size, 0, none⟩) es.length es.length) cells'.toList w.heap.size (0 + i * sz + j) = _
    rw [rowK_some rfl, Nat.zero_add]
    unfold knowRow
    rw [if_pos rfl]
    exact (hget i r hr j dd hj).1
  · exact ((hget i r hr j dd hj).2.2).mono (by
      have := hrow.1.le.K
      rw [← hel] at this
      exact this)
theorem sound_buildSliceM (hT : ∀ t i, T t = some i → i.Good P t) {t e : TypeId} {i : TyI} {n sz bytes : Nat} {parts : Array (Nat × Operand)} {cs0 : List PV} {d : Nat} (ho : o.op = .buildSlice t n parts) (hd : o.dst = some d) (ht : tyOf T t = .slice e sz bytes) (hi : T e = some i)
    (hsz : i.size = sz) (hpn : parts.size = n) (h24 : n * sz ≤ 2 ^ 24) (hes : rowsQ i σ parts.toList 0 = some cs0) (hf : c.O (d, 0, σ.ep) = none) (hfM : c.M (d, 0, σ.ep) = none) (hn : Next σ o a w c K { val := .row (d, 0, σ.ep) sz, al := [(0, cs0)] }) : o.wp P a w K Q := by
  obtain ⟨h1, h2, ie, z, h3, h4, h5, h6, h7⟩ := und_slice hT ht
  have key : ∀ (parts : List (Nat × Operand)) (n0 : Nat) (cs0 : List PV) (cells : Array Value), rowsQ i σ parts n0 = some cs0 → (n0 + parts.length) * sz ≤ cells.size →
      ∃ cells', Instr.fill (fun i => some (i * sz, sz)) cells (parts.map fun p => (p.1, a.eval p.2)) = some cells' ∧ cells'.size = cells.size ∧ (∀ q, q < n0 * sz → cells'[q]? = cells[q]?) ∧ cs0.length = parts.length * sz ∧
        ∀ (j : Nat) (p : PV), cs0[j]? = some p → ∃ y, cells'[n0 * sz + j]? = some y ∧ y.oneCell' = true ∧ RepP c p y := by
    intro parts
    induction parts with
    | nil => intro n0 cs0 cells h hb; simp [rowsQ] at h; subst h; exact ⟨cells, rfl, rfl, fun _ _ => rfl, by simp, fun j p hp => by simp at hp⟩
    | cons p rest ih =>
      obtain ⟨k, x⟩ := p
      intro n0 cs0 cells h hb
      simp only [rowsQ] at h
      split at h
      · rename_i hk
        subst hk
        split at h
        · rename_i cs l hcs hl
          simp at h
          subst h
          simp only [Option.bind_eq_some_iff] at hcs
          obtain ⟨v, hv, hc⟩ := hcs
          obtain ⟨g1, g2, g3⟩ := cellsT_sound (evalO_sound he hv) hc
          rw [hsz] at g1 g2
          have hb2 : k * sz + sz ≤ cells.size := by
            have : k * sz + sz = (k + 1) * sz := (Nat.succ_mul k sz).symm
            refine Nat.le_trans ?_ hb
            rw [this]
            exact Nat.mul_le_mul_right _ (by simp)
          obtain ⟨h8, h9⟩ := foldl_set (k * sz) (a.eval x).cells.toList 0 cells (by simp [g1]; omega)
          obtain ⟨cells', q1, q2, q3, q4, q6⟩ := ih (k + 1) l _ hl (by rw [h8]; simpa [Nat.add_assoc, Nat.add_comm 1] using hb)
          refine ⟨cells', ?_, q2.trans h8, fun q hq => ?_, by simp [q4, g2, Nat.succ_mul, Nat.add_comm], fun j p hp => ?_⟩
          · rw [List.map_cons, fill_cons rfl g1 hb2]; exact q1
          · rw [q3 q (by rw [Nat.succ_mul]; omega), h9 q, if_neg (by omega)]
          · rw [List.getElem?_append] at hp
            split at hp
            · rename_i hlt
              obtain ⟨y, g6, g7, g8⟩ := g3 j p hp
              refine ⟨y, ?_, g7, g8⟩
              rw [q3 _ (by rw [Nat.succ_mul]; omega), h9, if_pos (by simp [g1]; omega)]
              simp only [Nat.add_zero, Nat.add_sub_cancel_left]
              simpa using g6
            · rename_i hlt
              obtain ⟨y, g6, g7, g8⟩ := q6 _ p hp
              refine ⟨y, ?_, g7, g8⟩
              rw [Nat.succ_mul, g2, show k * sz + sz + (j - sz) = k * sz + j by omega] at g6
              exact g6
        · simp at h
      · simp at h
  have hlen : parts.toList.length = n := by simpa using hpn
  obtain ⟨zc, hzc1, hzc2⟩ : ∃ zc : Array Value, (n * sz = 0 → zc = #[]) ∧ (n * sz ≠ 0 → zc = z.cells) := ⟨if n * sz = 0 then #[] else z.cells, fun h => if_pos h, fun h => if_neg h⟩
  obtain ⟨cells', q1, q2, q3, q4, q6⟩ := key parts.toList 0 cs0 ((Array.range (n * sz)).map (zc[· % zc.size]!)) hes (by simp [hpn])
  have hcs : cells'.size = n * sz := by rw [q2]; simp
  have hn63 : n ≤ maxLen := by
    have : n * 1 ≤ n * sz := Nat.mul_le_mul_left _ h2
    simp only [maxLen]; omega
  have hrun : (execOp a.eval o).run P w = .ok (.value (.slice (some ⟨w.heap.size, 0, none⟩) n n)) (w.alloc (.cells cells' e)) := by
    simp only [execOp, ho]
    apply run_v
    have hparts : (parts.map fun (x : Nat × Operand) => (x.1, a.eval x.2)).toList = parts.toList.map fun p => (p.1, a.eval p.2) := by simp
    have h24' : ¬ (n * sz > 2 ^ 24) := by omega
    simp only [Instr.buildSlice, Sem.run_bind, run_underlying h1, Result.andThen_ok, run_sizeOf_info h3, h4, h24', if_false, hparts]
    by_cases hz : n * sz = 0
    · rw [hzc1 hz] at q1
      rw [if_pos hz]
      simp only [Sem.run_bind, Sem.run_pure, Result.andThen_ok]
      rw [q1]
      simp [newRow]
    · rw [hzc2 hz] at q1
      rw [if_neg hz]
      simp only [Sem.run_bind, zeroValue, typeInfo, run_program, Result.andThen_ok, h3, h6, Sem.run_pure]
      rw [q1]
      simp [newRow]
  refine wp_of_run hrun (hn _ _ { K := c.K, M := upd c.M (d, 0, σ.ep) (Value.slice (some ⟨w.heap.size, 0, none⟩) n n).ownBlock, O := upd c.O (d, 0, σ.ep) (some (.slice (some ⟨w.heap.size, 0, none⟩) n n, e, sz)) } (.row _ _ _ e (upd_same _ _ _) rfl) ?_)
  rw [hd]
  refine stepF_rowM hs d _ [] [] none e sz n _ _ _ hfM hf (World.ownsRow_lit w cells' n (Nat.zero_le _) hn63 hcs) (by rw [q4, hlen]) (fun j p hp => ?_) (World.grownBy_alloc w _ none) (by simp) (fun g hg => .inr ?_)
  · obtain ⟨y, y1, y2, y3⟩ := q6 j p hp
    exact ⟨y, by simpa using y1, y2, y3⟩
  · simp [Value.ownBlock] at hg; omega
theorem sound_append (hT : ∀ t i, T t = some i → i.Good P t) {cl : Call} {t e : TypeId} {sz bytes : Nat} {x y : Operand} {vx vy : PV} {dy : DV} {sy : Nat} {xs ys : List (List DV)} {us : List Key} {d : Nat} (ho : o.op = .call cl) (hc : cl.callee = .builtin .append)
    (ha : cl.args = #[x, y]) (hat : cl.argTypes = #[t, t]) (hd : o.dst = some d) (ht : tyOf T t = .slice e sz bytes) (hx : evalO σ x = some vx) (hy : evalO σ y = some vy) (hdy : asD vy = some dy) (hry : rowD dy = some (sy, ys)) (hsy : sy = sz ∨ ys = [])
    (hvx : (∃ τ, vx = .acc τ sz xs ∧ σ.live τ = true ∧ us = [τ]) ∨ (∃ q, vx = .dat (.nil q) ∧ xs = [] ∧ us = [])) (hb : (xs.length + ys.length) * bytes ≤ 140737488355328) (hm : xs.length + ys.length ≤ maxLen) (hf : c.O (d, 0, σ.ep) = none) (hfM : c.M (d, 0, σ.ep) = none)
    (hn : Next σ o a w c K { val := .acc (d, 0, σ.ep) sz (xs ++ ys), use := us, nw := [0] }) : o.wp P a w K Q := by
  obtain ⟨h1, h2, ie, z, h3, h4, h5, h6, h7⟩ := und_slice hT ht
  subst h4
  subst h5
  -- what is appended to
  obtain ⟨vv, e', n, xv, hvv, hown, hne, hrx, hng⟩ : ∃ (vv : Value) (e' : TypeId) (n : Nat) (xv : List Value), a.eval x = vv ∧ w.ownsRow 0 e' ie.size vv n xv ∧ n = xs.length ∧ RepD c.K (.lst ie.size xs) vv ∧
      ∀ g, vv.ownBlock = some g → (∀ o v, c.K g o = some v → o < n * ie.size) ∧ (∀ k cs, σ.mem k = some cs → c.M k ≠ some g) ∧ (∀ τ, σ.live τ = true → τ ∉ us → ∀ q, c.O τ = some q → q.1.ownBlock ≠ some g) ∧ ∃ τ ∈ us, ∃ q, c.O τ = some q ∧ q.1.ownBlock = some g := by
    have hp := evalO_sound he hx
    rcases hvx with ⟨τ, rfl, hl, rfl⟩ | ⟨q, rfl, rfl, rfl⟩
    · generalize a.eval x = u at hp
      cases hp with
      | acc _ _ _ _ e1 hO hR =>
        obtain ⟨x1, e2, sz2, n, xv, k1, k2, k3⟩ := hs.own τ hl
        rw [hO] at k1
        simp only [Option.some.injEq, Prod.mk.injEq] at k1
        obtain ⟨rfl, rfl, rfl⟩ := k1
        have hnn : n = xs.length := by
          rcases k2.2 with ⟨rfl, rfl⟩ | ⟨g, cap, cur, rfl, _⟩
          · cases hR; rfl
          · cases hR <;> rfl
        refine ⟨_, _, n, xv, rfl, k2, hnn, hR, fun g hg => ⟨(k3 g hg).1, (k3 g hg).2, fun τ' hl' hne q hq hqg => hne ?_, τ, by simp, _, hO, hg⟩⟩
        rw [hs.odis τ' τ _ _ g hl' hl hq hO hqg hg]; simp
    · generalize a.eval x = u at hp
      cases hp with
      | dat _ _ h =>
        cases h
        exact ⟨_, e, 0, [], rfl, World.ownsRow_nil w 0 e _, rfl, .nils _, fun g hg => by simp [Value.ownBlock] at hg⟩
  -- what is appended
  have hpy := asD_sound (evalO_sound he hy) hdy
  subst hne
  have done : ∀ (v' : Value) (w' : World) (e'' : TypeId) (news : List Value) (f : Nat → Nat → Value), (Builtin.append_ #[t, t] o.type #[vv, a.eval y]).run P w = .ok v' w' → w'.ownsRow 0 e'' ie.size v' (xs.length + ys.length) (xv ++ news) →
      ((v'.ownBlock = vv.ownBlock ∧ w.grownBy w' vv.ownBlock) ∨ (v'.ownBlock = some w.heap.size ∧ w.grownBy w' none)) → news.length = ys.length * ie.size → (∀ r ∈ ys, r.length = ie.size) →
      (∀ (i : Nat) (r : List DV), ys[i]? = some r → ∀ (j : Nat) (dd : DV), r[j]? = some dd → news[i * ie.size + j]? = some (f i j) ∧ (f i j).oneCell' = true ∧ RepD c.K dd (f i j)) → o.wp P a w K Q := by
    intro v' w' e'' news f hrun hown' hgr hnl hsz hnew
    have hrow := stepF_row hs d (.acc (d, 0, σ.ep) ie.size (xs ++ ys)) us e' e'' ie.size xs.length (xs.length + ys.length) vv v' xv (xv ++ news) hf hown hown' ⟨news, rfl⟩ hgr hfM hng
    have hex : (execOp a.eval o).run P w = .ok (.value v') w' := by
      simp only [execOp, ho, resolve, hc, ha, invoke, builtin, Sem.run_bind, Sem.run_pure, Result.andThen_ok, List.map_toArray, List.map_cons, List.map_nil, hat, hvv]
      rw [hrun]
      rfl
    refine wp_of_run hex (hn _ _ _ (.acc _ _ _ _ e'' (upd_same _ _ _) ?_) (by rw [hd]; exact hrow.1))
    have hlen : (xs ++ ys).length = xs.length + ys.length := by simp
    cases hob : v'.ownBlock with
    | none =>
      rcases hown'.2 with ⟨rfl, hz⟩ | ⟨g, cap, cur, rfl, _⟩
      · have hx0 : xs = [] := List.eq_nil_of_length_eq_zero (by omega)
        have hy0 : ys = [] := List.eq_nil_of_length_eq_zero (by omega)
        rw [hx0, hy0]
        exact .nils _
      · simp [Value.ownBlock] at hob
    | some g =>
      obtain ⟨cap, rfl, hcap, hmax, _⟩ := World.ownsRow_at hown' hob
      rw [← hlen]
      have hall : ∀ (i : Nat) (r : List DV), (xs ++ ys)[i]? = some r → ∀ (j : Nat) (dd : DV), r[j]? = some dd → ∃ u, (xv ++ news)[i * ie.size + j]? = some u ∧ u.oneCell' = true ∧ RepD c.K dd u := by
        intro i r hr j dd hj
        rw [List.getElem?_append] at hr
        split at hr
        · rename_i hlt
          -- from what was there
          have hjl : j < ie.size := by
            have : r.length = ie.size := by
              cases hrx with
              | nils => simp at hr
              | emp => simp at hr
              | lst _ _ _ _ _ _ _ _ hs' => exact hs' r (List.mem_of_getElem? hr)
            rw [← this]; exact (List.getElem?_eq_some_iff.1 hj).1
          have hq : i * ie.size + j < xs.length * ie.size := idx_lt hlt hjl
          rw [List.getElem?_append_left (by rw [hown.1]; exact hq)]
          generalize hvv2 : vv = vq at hrx
          cases hrx with
          | nils => simp at hr
          | emp => simp at hr
          | lst _ _ b1 o1 c1 f1 g1 g2 gs gk go gr =>
            subst hvv2
            obtain ⟨cap2, he2, _, _, hcell⟩ := World.ownsRow_at (g := b1) hown rfl
            simp only [Value.slice.injEq, Option.some.injEq, Addr.mk.injEq, true_and] at he2
            obtain ⟨rfl, _⟩ := he2.1
            have := hs.kin _ _ _ (gk i r hr j dd hj)
            rw [Nat.zero_add] at this
            rw [hcell _ hq] at this
            exact ⟨_, this, go i r hr j dd hj, gr i r hr j dd hj⟩
        · rename_i hlt
          obtain ⟨k1, k2, k3⟩ := hnew _ r hr j dd hj
          refine ⟨_, ?_, k2, k3⟩
          have hge : xs.length * ie.size ≤ i * ie.size := Nat.mul_le_mul_right _ (by omega)
          rw [List.getElem?_append_right (by rw [hown.1]; omega), hown.1]
          rw [← k1]
          congr 1
          rw [Nat.sub_mul]; omega
      have hszall : ∀ r ∈ xs ++ ys, r.length = ie.size := by
        intro r hr
        rcases List.mem_append.1 hr with hr | hr
        · cases hrx with
          | nils => simp at hr
          | emp => simp at hr
          | lst _ _ _ _ _ _ _ _ hs' => exact hs' r hr
        · exact hsz r hr
      refine .lst _ _ _ _ _ (fun i j => (xv ++ news).getD (i * ie.size + j) undef) (by rw [hlen]; exact hcap) hmax hszall (fun i r hr j dd hj => ?_) (fun i r hr j dd hj => ?_) (fun i r hr j dd hj => ?_)
      · obtain ⟨u, u1, u2, u3⟩ := hall i r hr j dd hj
        show rowK c.K (.slice (some ⟨g, 0, none⟩) (xs ++ ys).length cap) (xv ++ news) g (0 + i * ie.size + j) = _
        rw [rowK_some rfl, Nat.zero_add]
        unfold knowRow
        rw [if_pos rfl, u1]
        simp [List.getD, u1]
      · obtain ⟨u, u1, u2, u3⟩ := hall i r hr j dd hj
        simp only [List.getD, u1, Option.getD_some]; exact u2
      · obtain ⟨u, u1, u2, u3⟩ := hall i r hr j dd hj
        simp only [List.getD, u1, Option.getD_some]
        refine u3.mono ?_
        rw [hlen]
        exact hrow.1.le.K
  generalize hyv : a.eval y = yv at hpy done
  have nilcase : ys = [] → yv = .slice none 0 0 → o.wp P a w K Q := by
    rintro rfl rfl
    have hr : (Builtin.append_ #[t, t] o.type #[vv, .slice none 0 0]).run P w = .ok vv w := by
      rcases hown.2 with ⟨rfl, _⟩ | ⟨g, cap, cur, rfl, _, _, hnc, _⟩
      · simp [Builtin.append_, run_underlying h1, sizeOf, typeInfo, h3, Builtin.lenOf, Builtin.firstCells]
      · simp [Builtin.append_, run_underlying h1, sizeOf, typeInfo, h3, Builtin.lenOf, Builtin.firstCells, hnc, storeCells]
    exact done vv w e' [] (fun _ _ => undef) hr (by simpa using hown) (.inl ⟨rfl, ⟨rfl, rfl, rfl, Nat.le_refl _, fun _ _ _ => rfl⟩⟩) (by simp) (by simp) (fun i r hr => by simp at hr)
  cases hpy <;> simp [rowD] at hry
  · obtain ⟨_, rfl⟩ := hry; exact nilcase rfl rfl
  · obtain ⟨_, rfl⟩ := hry; exact nilcase rfl rfl
  · rename_i sz' es b1 o1 c1 f1 g1 g2 gs gk go gr
    obtain ⟨rfl, rfl⟩ := hry
    by_cases hys : es = []
    · subst hys
      have hr : (Builtin.append_ #[t, t] o.type #[vv, .slice (some ⟨b1, o1, none⟩) 0 c1]).run P w = .ok vv w := by
        rcases hown.2 with ⟨rfl, _⟩ | ⟨g, cap, cur, rfl, _, _, hnc, _⟩
        · simp [Builtin.append_, run_underlying h1, sizeOf, typeInfo, h3, Builtin.lenOf, Builtin.firstCells, loadCells, loadCellsFrom]
        · simp [Builtin.append_, run_underlying h1, sizeOf, typeInfo, h3, Builtin.lenOf, Builtin.firstCells, hnc, loadCells, loadCellsFrom, storeCells]
      exact done vv w e' [] (fun _ _ => undef) hr (by simpa using hown) (.inl ⟨rfl, ⟨rfl, rfl, rfl, Nat.le_refl _, fun _ _ _ => rfl⟩⟩) (by simp) (by simp) (fun i r hr => by simp at hr)
    · have hsz' : sz' = ie.size := hsy.resolve_right hys
      subst hsz'
      have hin : ∀ (q : Nat) (u : Value), (flat es.length ie.size f1)[q]? = some u → c.K b1 (o1 + q) = some u ∧ u.oneCell' = true := by
        intro q u hq
        obtain ⟨h8, rfl⟩ := flat_some hq
        have hi : q / ie.size < es.length := (Nat.div_lt_iff_lt_mul h2).2 h8
        have hr : es[q / ie.size]? = some es[q / ie.size] := by simp [hi]
        have hj : q % ie.size < (es[q / ie.size]).length := by rw [gs _ (List.getElem_mem hi)]; exact Nat.mod_lt _ h2
        have hd' : (es[q / ie.size])[q % ie.size]? = some (es[q / ie.size])[q % ie.size] := by simp [hj]
        refine ⟨?_, go _ _ hr _ _ hd'⟩
        rw [← gk _ _ hr _ _ hd']
        congr 1
        rw [Nat.add_assoc, Nat.mul_comm, Nat.div_add_mod]
      obtain ⟨v', w', e'', r1, r2, r3⟩ := run_append_acc (P := P) w t o.type e e' ie z h1 h3 h6 h7 vv xs.length xv hown ⟨b1, o1, none⟩ es.length c1 (flat es.length ie.size f1) (flat_length _ _ _)
        (fun q u hq => by rw [addr_add]; exact hs.kin _ _ _ (hin q u hq).1) (fun u hu => by obtain ⟨q, hq⟩ := List.mem_iff_getElem?.1 hu; exact (hin q u hq).2) hm hb
      refine done v' w' e'' _ f1 r1 r2 r3 (flat_length _ _ _) gs (fun i r hr j dd hj => ?_)
      have hj' : j < ie.size := by rw [← gs r (List.mem_of_getElem? hr)]; exact (List.getElem?_eq_some_iff.1 hj).1
      exact ⟨flat_get (List.getElem?_eq_some_iff.1 hr).1 hj', go i r hr j dd hj, gr i r hr j dd hj⟩
  · rename_i sz' ad
    obtain ⟨rfl, rfl⟩ := hry
    have hr : (Builtin.append_ #[t, t] o.type #[vv, .slice (some ad) 0 0]).run P w = .ok vv w := by
      rcases hown.2 with ⟨rfl, _⟩ | ⟨g, cap, cur, rfl, _, _, hnc, _⟩
      · simp [Builtin.append_, run_underlying h1, sizeOf, typeInfo, h3, Builtin.lenOf, Builtin.firstCells, loadCells, loadCellsFrom]
      · simp [Builtin.append_, run_underlying h1, sizeOf, typeInfo, h3, Builtin.lenOf, Builtin.firstCells, hnc, loadCells, loadCellsFrom, storeCells]
    exact done vv w e' [] (fun _ _ => undef) hr (by simpa using hown) (.inl ⟨rfl, ⟨rfl, rfl, rfl, Nat.le_refl _, fun _ _ _ => rfl⟩⟩) (by simp) (by simp) (fun i r hr => by simp at hr)
theorem sound_appM (hT : ∀ t i, T t = some i → i.Good P t) {cl : Call} {t e : TypeId} {sz bytes : Nat} {x y : Operand} {vx vy : PV} {csx csy : List PV} {rms rd : List Key} {d : Nat} (ho : o.op = .call cl) (hc : cl.callee = .builtin .append)
    (ha : cl.args = #[x, y]) (hat : cl.argTypes = #[t, t]) (hd : o.dst = some d) (ht : tyOf T t = .slice e sz bytes) (hx : evalO σ x = some vx) (hy : evalO σ y = some vy)
    (hvx : (∃ τ, vx = .row τ sz ∧ σ.mem τ = some csx ∧ rms = [τ]) ∨ (∃ q, vx = .dat (.nil q) ∧ csx = [] ∧ rms = []))
    (hvy : (∃ dy sy ys, asD vy = some dy ∧ rowD dy = some (sy, ys) ∧ (sy = sz ∨ ys = []) ∧ csy = flatP ys ∧ (csx.length / sz + ys.length) * bytes ≤ 140737488355328 ∧ csx.length / sz + ys.length ≤ maxLen) ∨
      (∃ τ, vy = .row τ sz ∧ σ.mem τ = some csy ∧ (csx.length + csy.length) / sz * bytes ≤ 140737488355328 ∧ (csx.length + csy.length) / sz ≤ maxLen))
    (hf : c.O (d, 0, σ.ep) = none) (hfM : c.M (d, 0, σ.ep) = none)
    (hn : Next σ o a w c K { val := .row (d, 0, σ.ep) sz, al := [(0, csx ++ csy)], rd := rd, rm := rms }) : o.wp P a w K Q := by
  obtain ⟨h1, h2, ie, z, h3, h4, h5, h6, h7⟩ := und_slice hT ht
  subst h4
  subst h5
  obtain ⟨vv, e', n, xv, hvv, hown, hnx, hcx, hnb⟩ : ∃ (vv : Value) (e' : TypeId) (n : Nat) (xv : List Value), a.eval x = vv ∧ w.ownsRow 0 e' ie.size vv n xv ∧ csx.length = n * ie.size ∧ CellsR c csx (fun j => xv[j]?) ∧
      ∀ g, vv.ownBlock = some g → ∃ τ ∈ rms, (∃ cs, σ.mem τ = some cs) ∧ c.M τ = some g := by
    rcases hvx with ⟨τ, rfl, hm, rfl⟩ | ⟨q, rfl, rfl, rfl⟩
    · obtain ⟨v, e2, n, xs, hv, g1, g2, g3, g4, g5⟩ := row_value hs he hx hm
      exact ⟨v, e2, n, xs, hv, g2, g4, g5, fun g hg => ⟨τ, by simp, ⟨csx, hm⟩, by rw [g3]; exact hg⟩⟩
    · have hp := evalO_sound he hx
      generalize a.eval x = u at hp
      cases hp with
      | dat _ _ h =>
        cases h
        exact ⟨_, e, 0, [], rfl, World.ownsRow_nil w 0 e _, by simp, fun j v hj => by simp at hj, fun g hg => by simp [Value.ownBlock] at hg⟩
  have hdx : csx.length / ie.size = n := by rw [hnx]; exact Nat.mul_div_cancel _ h2
  have done : ∀ (v' : Value) (w' : World) (e'' : TypeId) (m : Nat) (news : List Value), (Builtin.append_ #[t, t] o.type #[vv, a.eval y]).run P w = .ok v' w' → w'.ownsRow 0 e'' ie.size v' (n + m) (xv ++ news) →
      ((v'.ownBlock = vv.ownBlock ∧ w.grownBy w' vv.ownBlock) ∨ (v'.ownBlock = some w.heap.size ∧ w.grownBy w' none)) → csy.length = m * ie.size → CellsR c csy (fun j => news[j]?) → o.wp P a w K Q := by
    intro v' w' e'' m news hrun hown' hgr hml hcy
    have hex : (execOp a.eval o).run P w = .ok (.value v') w' := by
      simp only [execOp, ho, resolve, hc, ha, invoke, builtin, Sem.run_bind, Sem.run_pure, Result.andThen_ok, List.map_toArray, List.map_cons, List.map_nil, hat, hvv]
      rw [hrun]
      rfl
    obtain ⟨ad, cap, hv', _⟩ := ownsRow_value hs he hown'
    refine wp_of_run hex (hn _ _ { K := c.K, M := upd c.M (d, 0, σ.ep) v'.ownBlock, O := upd c.O (d, 0, σ.ep) (some (v', e'', ie.size)) } (.row _ _ _ e'' (upd_same _ _ _) (by rw [hv']; rfl)) ?_)
    rw [hd]
    have hcr : CellsR c (csx ++ csy) fun j => (xv ++ news)[j]? := by
      intro j v hj
      rw [List.getElem?_append] at hj
      split at hj
      · rename_i hlt
        obtain ⟨u, g1, g2, g3⟩ := hcx j v hj
        exact ⟨u, by show (xv ++ news)[j]? = _; rw [List.getElem?_append_left (by rw [hown.1, ← hnx]; exact hlt)]; exact g1, g2, g3⟩
      · rename_i hlt
        obtain ⟨u, g1, g2, g3⟩ := hcy _ v hj
        exact ⟨u, by show (xv ++ news)[j]? = _; rw [List.getElem?_append_right (by rw [hown.1, ← hnx]; omega), hown.1, ← hnx]; exact g1, g2, g3⟩
    rcases hgr with ⟨q1, q2⟩ | ⟨q1, q2⟩
    · exact stepF_rowM hs d _ rms rd vv.ownBlock e'' ie.size (n + m) v' _ _ hfM hf hown' (by rw [List.length_append, hnx, hml, Nat.add_mul]) hcr q2 hnb (fun g hg => .inl (hnb g (q1 ▸ hg)))
    · exact stepF_rowM hs d _ rms rd none e'' ie.size (n + m) v' _ _ hfM hf hown' (by rw [List.length_append, hnx, hml, Nat.add_mul]) hcr q2 (by simp) (fun g hg => .inr (by rw [q1] at hg; cases hg; exact Nat.le_refl _))
  have zero : ∀ (yv : Value), a.eval y = yv → (∃ ad cap, yv = .slice ad 0 cap) → csy = [] → o.wp P a w K Q := by
    rintro yv hyv ⟨ad, cap, rfl⟩ rfl
    have hr : (Builtin.append_ #[t, t] o.type #[vv, .slice ad 0 cap]).run P w = .ok vv w := by
      rcases hown.2 with ⟨rfl, _⟩ | ⟨g, cap', cur, rfl, _, _, hnc, _⟩
      · cases ad <;> simp [Builtin.append_, run_underlying h1, sizeOf, typeInfo, h3, Builtin.lenOf, Builtin.firstCells, loadCells, loadCellsFrom]
      · cases ad <;> simp [Builtin.append_, run_underlying h1, sizeOf, typeInfo, h3, Builtin.lenOf, Builtin.firstCells, hnc, loadCells, loadCellsFrom, storeCells]
    exact done vv w e' 0 [] (by rw [hyv]; exact hr) (by simpa using hown) (.inl ⟨rfl, ⟨rfl, rfl, rfl, Nat.le_refl _, fun _ _ _ => rfl⟩⟩) (by simp) (fun j v hj => by simp at hj)
  rcases hvy with ⟨dy, sy, ys, hdy, hry, hsy, rfl, hb, hm⟩ | ⟨τ, rfl, hmy, hb, hm⟩
  · rw [hdx] at hb hm
    have hpy := asD_sound (evalO_sound he hy) hdy
    generalize hyv : a.eval y = yv at hpy done
    cases hpy <;> simp [rowD] at hry
    · obtain ⟨_, rfl⟩ := hry; exact zero _ hyv ⟨_, _, rfl⟩ rfl
    · obtain ⟨_, rfl⟩ := hry; exact zero _ hyv ⟨_, _, rfl⟩ rfl
    · rename_i sz' es b1 o1 c1 f1 g1 g2 gs gk go gr
      obtain ⟨rfl, rfl⟩ := hry
      by_cases hys : es = []
      · subst hys; exact zero _ hyv ⟨_, _, rfl⟩ rfl
      · have hsz' : sz' = ie.size := hsy.resolve_right hys
        subst hsz'
        have hin : ∀ (q : Nat) (u : Value), (flat es.length ie.size f1)[q]? = some u → c.K b1 (o1 + q) = some u ∧ u.oneCell' = true := by
          intro q u hq
          obtain ⟨h8, rfl⟩ := flat_some hq
          have hi : q / ie.size < es.length := (Nat.div_lt_iff_lt_mul h2).2 h8
          have hr : es[q / ie.size]? = some es[q / ie.size] := by simp [hi]
          have hj : q % ie.size < (es[q / ie.size]).length := by rw [gs _ (List.getElem_mem hi)]; exact Nat.mod_lt _ h2
          have hd' : (es[q / ie.size])[q % ie.size]? = some (es[q / ie.size])[q % ie.size] := by simp [hj]
          refine ⟨?_, go _ _ hr _ _ hd'⟩
          rw [← gk _ _ hr _ _ hd']
          congr 1
          rw [Nat.add_assoc, Nat.mul_comm, Nat.div_add_mod]
        obtain ⟨v', w', e'', r1, r2, r3⟩ := run_append_acc (P := P) w t o.type e e' ie z h1 h3 h6 h7 vv n xv hown ⟨b1, o1, none⟩ es.length c1 (flat es.length ie.size f1) (flat_length _ _ _)
          (fun q u hq => by rw [addr_add]; exact hs.kin _ _ _ (hin q u hq).1) (fun u hu => by obtain ⟨q, hq⟩ := List.mem_iff_getElem?.1 hu; exact (hin q u hq).2) hm hb
        obtain ⟨p1, p2⟩ := flatP_get gs
        refine done v' w' e'' es.length _ r1 r2 r3 p1 (fun j v hj => ?_)
        obtain ⟨r, dd, k1, k2, rfl⟩ := p2 j v hj
        have hi : j / ie.size < es.length := (List.getElem?_eq_some_iff.1 k1).1
        have := flat_get (f := f1) hi (Nat.mod_lt j h2)
        rw [Nat.mul_comm, Nat.div_add_mod] at this
        exact ⟨_, this, go _ _ k1 _ _ k2, .dat _ _ (gr _ _ k1 _ _ k2)⟩
    · rename_i sz' ad
      obtain ⟨rfl, rfl⟩ := hry
      exact zero _ hyv ⟨_, _, rfl⟩ rfl
  · obtain ⟨yv, e2, m, ys, hyv, g1, g2, g3, g4, g5⟩ := row_value hs he hy hmy
    have hdd : (csx.length + csy.length) / ie.size = n + m := by rw [hnx, g4, ← Nat.add_mul]; exact Nat.mul_div_cancel _ h2
    rw [hdd] at hb hm
    rcases g2.2 with ⟨q1, q2⟩ | ⟨g, cap', cur, q1, q2, q3, q4, q5, q6, q7⟩
    · exact zero yv hyv ⟨_, _, q1⟩ (List.eq_nil_of_length_eq_zero (by rw [g4, q2, Nat.zero_mul]))
    · have hyl : ys.length = m * ie.size := g2.1
      have hone : ∀ u ∈ ys, u.oneCell' = true := by
        intro u hu
        obtain ⟨j, hj⟩ := List.mem_iff_getElem?.1 hu
        have hlt : j < csy.length := by rw [g4, ← hyl]; exact (List.getElem?_eq_some_iff.1 hj).1
        obtain ⟨u', k1, k2, _⟩ := g5 j csy[j] (by simp [hlt])
        have k1 : ys[j]? = some u' := k1
        rw [hj] at k1; cases k1; exact k2
      obtain ⟨v', w', e'', r1, r2, r3⟩ := run_append_acc (P := P) w t o.type e e' ie z h1 h3 h6 h7 vv n xv hown ⟨g, 0, none⟩ m cap' ys hyl
        (fun j u hj => by subst q1; exact g2.cells (g := g) rfl j u hj) hone hm hb
      exact done v' w' e'' m ys (by rw [hyv, q1]; exact r1) r2 r3 g4 g5
end
end Go.Proofs.YtbeafnkcimfeeaaGreatDoor.AM
/- The abstract machine (10): every operation, in one theorem. -/
namespace Go.Proofs.YtbeafnkcimfeeaaGreatDoor.AM
set_option linter.unusedVariables false
set_option linter.unusedSimpArgs false
open Go.RowKit
set_option linter.unusedVariables false
set_option linter.unusedSimpArgs false
set_option linter.unusedSectionVars false
section
variable {P : Program} {T : Tab} {o : Oper} {σ : St} {a : Act} {w : World} {c : Cfg} {e : Eff} {K : Act → World → Prop} {Q : Exit → Act → World → Prop}
theorem argsP_one {x : List Operand} {v : PV} (h : argsP σ x = some [v]) : ∃ y, x = [y] ∧ evalO σ y = some v := by
  cases x with
  | nil => simp [argsP] at h
  | cons y r =>
    simp only [argsP] at h
    split at h <;> simp at h
    rename_i u l h1 h2
    obtain ⟨rfl, rfl⟩ := h
    cases r with
    | nil => exact ⟨y, rfl, h1⟩
    | cons z r => simp only [argsP] at h2; split at h2 <;> simp at h2
theorem argsP_two {x : List Operand} {u v : PV} (h : argsP σ x = some [u, v]) : ∃ y z, x = [y, z] ∧ evalO σ y = some u ∧ evalO σ z = some v := by
  cases x with
  | nil => simp [argsP] at h
  | cons y r =>
    simp only [argsP] at h
    split at h <;> simp at h
    rename_i u' l h1 h2
    obtain ⟨rfl, rfl⟩ := h
    obtain ⟨z, rfl, h3⟩ := argsP_one h2
    exact ⟨y, z, rfl, h1, h3⟩
set_option maxHeartbeats 1000000 in
theorem OpK_sound (hT : ∀ t i, T t = some i → i.Good P t) (hs : HS σ w c) (he : EnvOk σ a c) (hf : ∀ d, o.dst = some d → FreshAt c d σ.ep)
    (h : OpK P T true o σ (Next σ o a w c K)) : o.wp P a w K Q := by
  unfold OpK at h
  unfold opOut at h
  split at h
  · rename_i x ho
    split at h
    · rename_i v hv; exact sound_move hs he ho hv h
    · exact False.elim h
  · rename_i x ho
    split at h
    · rename_i hx
      split at h
      · rename_i d e sz by' hd ht
        split at h
        · exact sound_assign_nilM (e := e) hs he ho hx hd ((hf d hd).1 0).2 ((hf d hd).1 0).1 h
        · exact sound_assign_nil (e := e) hs he ho hx hd ((hf d hd).1 0).2 ((hf d hd).1 0).1 h
      · exact False.elim h
    · split at h
      · rename_i v hv; exact sound_assign hs he ho hv h
      · exact False.elim h
  · rename_i x y z ho
    split at h
    · rename_i t ht
      cases t with
      | true =>
        have h := h.1 rfl
        unfold optK at h
        split at h
        · rename_i v hv; exact sound_pick hs he ho ht (by simpa using hv) h
        · exact False.elim h
      | false =>
        have h := h.2 rfl
        unfold optK at h
        split at h
        · rename_i v hv; exact sound_pick hs he ho ht (by simpa using hv) h
        · exact False.elim h
    · exact False.elim h
  · rename_i t ho
    split at h
    · rename_i d i hd hi; exact sound_alloc hs he hT ho hd hi ((hf d hd).1 0).1 ((hf d hd).1 0).2 h
    · exact False.elim h
  · rename_i t x ho
    split at h
    · rename_i d i hd hi
      split at h
      · rename_i cs hc; exact sound_box hs he ho hd hc ((hf d hd).1 0).1 ((hf d hd).1 0).2 h
      · exact False.elim h
    · exact False.elim h
  · rename_i t parts ho
    split at h
    · rename_i i hi
      split at h
      · rename_i fs hty
        split at h
        · rename_i cs hc; exact sound_build hs he hT ho hi hty hc h
        · exact False.elim h
      · exact False.elim h
    · exact False.elim h
  · rename_i t n parts ho
    split at h
    · rename_i d e sz by' hd ht
      split at h
      · rename_i i hi
        split at h
        · rename_i hc
          split at h
          · split at h
            · rename_i cs0 hes; exact sound_buildSliceM hs he hT ho hd ht hi hc.1 hc.2.1 hc.2.2 hes ((hf d hd).1 0).2 ((hf d hd).1 0).1 h
            · exact False.elim h
          · split at h
            · rename_i es hes; exact sound_buildSlice hs he hT ho hd ht hi hc.1 hc.2.1 hc.2.2 hes ((hf d hd).1 0).2 ((hf d hd).1 0).1 h
            · exact False.elim h
        · exact False.elim h
      · exact False.elim h
    · exact False.elim h
  · rename_i t x ho
    split at h
    · rename_i i k off hi hx
      simp only [Out.holds] at h
      split at h
      · rename_i cs hk
        split at h
        · rename_i e hl
          unfold loadOut at hl
          split at hl
          · rename_i ha
            split at hl <;> simp at hl
            rename_i hl2
            subst hl
            exact sound_load_box hs he hT ho hi hx hk (.inl ⟨ha, hl2, rfl⟩) h
          · rename_i ha
            split at hl <;> simp at hl
            rename_i v hv
            subst hl
            exact sound_load_box (m := false) hs he hT ho hi hx hk (.inr ⟨by simpa using ha, hv⟩) h
        · exact False.elim h
      · exact False.elim h
    · rename_i i cs off hi hx
      split at h
      · rename_i ha
        split at h
        · rename_i hl; exact sound_load_ip hs he hT ho hi hx (.inl ⟨ha, hl, rfl⟩) h
        · exact False.elim h
      · rename_i ha
        split at h
        · rename_i v hv; exact sound_load_ip hs he hT ho hi hx (.inr ⟨by simpa using ha, hv⟩) h
        · exact False.elim h
    · exact False.elim h
  · rename_i t x y ho
    split at h
    · rename_i i k off hd hi hx
      split at h
      · rename_i new hy
        simp only [Out.holds] at h
        split at h
        · rename_i cs hk
          split at h
          · rename_i e hl
            unfold storeOut at hl
            split at hl <;> simp at hl
            rename_i hl2
            subst hl
            exact sound_store hs he hT ho hd hi hx hk hy hl2 h
          · exact False.elim h
        · exact False.elim h
      · exact False.elim h
    · exact False.elim h
  · rename_i op t x y t' ho
    split at h
    · rename_i p q hx hy
      split at h
      · rename_i d hd; exact sound_binOp hs he hT ho hx hy hd h
      · split at h
        · exact sound_strAdd hs he ho hx hy h.1 h.2
        · exact False.elim h
    · rename_i b hx hy
      split at h
      · rename_i d hd
        simp only [Option.bind_eq_some_iff] at hd
        obtain ⟨p, hp, hd⟩ := hd
        exact sound_nilP hs he hT ho hp hy hd h
      · exact False.elim h
    · exact False.elim h
  · rename_i s t x ho
    split at h
    · rename_i ks k k' n hs' ht hx
      obtain ⟨i, hi, _⟩ := tyOf_some hs' (by simp)
      exact sound_convert hs he hT ho ht hi hx h
    · exact False.elim h
  · rename_i x ho
    split at h
    · rename_i k off hx; exact sound_nilCheck hs he ho hx h
    · exact False.elim h
  · rename_i t ho
    exact sound_makeMap hs he ho h
  · rename_i t x y ho
    split at h
    · rename_i d e sz by' k n k' n' hd ht hx hy
      split at h
      · rename_i i hi
        obtain ⟨⟨rfl, h0, hb, hm⟩, h⟩ := h
        exact sound_makeSlice hs he hT ho hd ht hi hx hy h0 hb hm ((hf d hd).1 0).1 ((hf d hd).1 0).2 h
      · exact False.elim h
    · exact False.elim h
  · rename_i t x ho
    split at h
    · rename_i b hb; exact sound_not hs he ho hb h
    · exact False.elim h
  · rename_i t x f ho
    split at h
    · rename_i fs k off ht hx
      split at h
      · rename_i p hp; exact sound_fieldAddr_box hs he hT ho ht hx hp h
      · exact False.elim h
    · rename_i fs cs off ht hx
      split at h
      · rename_i p hp; exact sound_fieldAddr_ip hs he hT ho ht hx hp h
      · exact False.elim h
    · exact False.elim h
  · rename_i t x f ho
    split at h
    · rename_i fs cs ht hx
      split at h
      · rename_i off sz ag hp
        split at h
        · rename_i ha
          split at h
          · rename_i hl; exact sound_field hs he hT ho ht hx hp (.inl ⟨ha, hl, rfl⟩) h
          · exact False.elim h
        · rename_i ha
          split at h
          · rename_i d hd; exact sound_field hs he hT ho ht hx hp (.inr ⟨by simpa using ha, hd⟩) h
          · exact False.elim h
      · exact False.elim h
    · rename_i fs ht hx
      split at h
      · rename_i cs hx
        split at h
        · rename_i off sz ag hp
          split at h
          · rename_i ha
            split at h
            · rename_i hl; exact sound_field_mix hs he hT ho ht hx hp (.inl ⟨ha, hl, rfl⟩) h
            · exact False.elim h
          · rename_i ha
            split at h
            · rename_i d hd; exact sound_field_mix (m := false) hs he hT ho ht hx hp (.inr ⟨by simpa using ha, hd⟩) h
            · exact False.elim h
        · exact False.elim h
      · exact False.elim h
    · exact False.elim h
  · rename_i t x i ho
    split at h
    · rename_i e sz by' k n ht hx hi
      split at h
      · rename_i τ sz' hx
        split at h
        · rename_i hz
          subst hz
          simp only [Out.holds] at h
          split at h
          · rename_i cs hk
            exact sound_indexAddr_row hs he hT ho ht hx hi hk h.1.1 h.1.2 h.2
          · exact False.elim h
        · exact False.elim h
      · exact False.elim h
    · rename_i e sz by' d k n ht hx hi
      split at h
      · rename_i sz' es
        split at h
        · rename_i hz
          subst hz
          obtain ⟨cs, ⟨h0, hc⟩, h⟩ := h
          exact sound_indexAddr hs he hT ho ht hx hi h0 hc h
        · exact False.elim h
      · exact False.elim h
    · exact False.elim h
  · rename_i t x i ho
    split at h
    · rename_i s k n ht hx hi
      obtain ⟨b, ⟨h0, hc⟩, h⟩ := h
      exact sound_index hs he hT ho ht hx hi h0 hc h
    · exact False.elim h
  · rename_i x i ho
    split at h
    · rename_i vs hx
      split at h
      · rename_i d hd; exact sound_extract hs he ho hx hd h
      · exact False.elim h
    · rename_i vs hx
      split at h
      · rename_i d hd; exact sound_extract_tup hs he ho hx hd h
      · exact False.elim h
    · exact False.elim h
  · rename_i t x lo hi ho
    split at h
    · rename_i s ht hx
      split at h
      · rename_i l hh hl hhi; exact sound_slice_str hs he hT ho ht hx hl hhi h.1 h.2
      · exact False.elim h
    · rename_i e sz by' ht hx
      split at h
      · rename_i d τ sz' k hh hd hx' hy
        split at h
        · rename_i hz
          subst hz
          simp only [Out.holds] at h
          split at h
          · rename_i cs hk
            cases hi with
            | none => simp at hy
            | some y => exact sound_slice_own hs he hT ho hd ht hx' hk (by simpa using hy) h.1.1 h.1.2 ((hf d hd).1 0).1 ((hf d hd).1 0).2 h.2
          · exact False.elim h
        · exact False.elim h
      · exact False.elim h
    · rename_i e sz by' d ht hx
      split at h
      · rename_i sz' es
        split at h
        · rename_i hz
          subst hz
          split at h
          · rename_i l hh hl hhi; exact sound_slice_lst hs he hT ho ht hx hl hhi h.1 h.2
          · exact False.elim h
        · exact False.elim h
      · exact False.elim h
    · exact False.elim h
  · rename_i t x ho
    split at h
    · rename_i i d hi hx
      split at h
      · rename_i k hk; exact sound_makeInterface hs he hT ho hi (.inl ⟨k, hk⟩) hx h
      · rename_i hk; exact sound_makeInterface hs he hT ho hi (.inr (.inl hk)) hx h
      · rename_i hk; exact sound_makeInterface hs he hT ho hi (.inr (.inr (.inl hk))) hx h
      · rename_i hk; exact sound_makeInterface hs he hT ho hi (.inr (.inr (.inr hk))) hx h
      · exact False.elim h
    · rename_i i k hi hx
      split at h
      · rename_i hk
        simp only [Out.holds] at h
        split at h
        · rename_i cs hm
          split at h
          · rename_i e he'
            split at he'
            · rename_i ds hds
              simp at he'
              subst he'
              exact sound_makeInterfaceF hs he hT ho hi hk hx hm hds h.2
            · cases he'
          · exact False.elim h.2
        · exact False.elim h
      · exact False.elim h
    · exact False.elim h
  · rename_i f first cap ho
    split at h
    · rename_i m l hm hl; exact sound_makeFunc hs he ho hm hl h
    · exact False.elim h
  · rename_i cl ho
    split at h
    · rename_i f hc
      split at h
      · rename_i args g fst caps ha hf'
        obtain ⟨d, rdm, e, hd, hr, hu, hE, h⟩ := h
        exact sound_call hs he ho hc ha hf' hd hr hu hE (hf d hd) h
      · exact False.elim h
    · rename_i b hc
      split at h
      · rename_i args ha
        unfold builtinOut at h
        split at h
        · rename_i τ sz
          obtain ⟨y, hy, hv⟩ := argsP_one ha
          have hy' : cl.args = #[y] := by apply Array.ext'; simpa using hy
          split at h
          · rename_i e sz' by' hat
            simp only [Option.map_eq_some_iff] at hat
            obtain ⟨t, h1, h2⟩ := hat
            split at h
            · rename_i hz
              subst hz
              simp only [Out.holds] at h
              split at h
              · rename_i cs hk
                exact sound_len_own hs he hT ho hc hy' hv hk ⟨t, _, _, h1, h2⟩ h
              · exact False.elim h
            · exact False.elim h
          · exact False.elim h
        · rename_i v _
          obtain ⟨y, hy, hv⟩ := argsP_one ha
          have hy' : cl.args = #[y] := by apply Array.ext'; simpa using hy
          split at h
          · rename_i s had hat
            simp only [Option.map_eq_some_iff] at hat
            obtain ⟨t, h1, h2⟩ := hat
            exact sound_len_str hs he hT ho hc hy' hv had ⟨t, h1, h2⟩ h
          · rename_i d e sz by' _ had hat
            simp only [Option.map_eq_some_iff] at hat
            obtain ⟨t, h1, h2⟩ := hat
            split at h
            · rename_i sy es hr
              exact sound_len_row hs he hT ho hc hy' hv had hr ⟨t, _, _, _, h1, h2⟩ h
            · exact False.elim h
          · exact False.elim h
        · rename_i x y
          obtain ⟨p, q, hpq, h1, h2⟩ := argsP_two ha
          have hy' : cl.args = #[p, q] := by apply Array.ext'; simpa using hpq
          split at h
          · rename_i k a1 k' b1 had1 had2
            split at h
            · rename_i hk; subst hk; exact sound_min hs he ho hc hy' h1 had1 h2 had2 h
            · exact False.elim h
          · exact False.elim h
        · rename_i x y
          obtain ⟨p, q, hpq, h1, h2⟩ := argsP_two ha
          have hy' : cl.args = #[p, q] := by apply Array.ext'; simpa using hpq
          split at h
          · rename_i k a1 k' b1 had1 had2
            split at h
            · rename_i hk; subst hk; exact sound_max hs he ho hc hy' h1 had1 h2 had2 h
            · exact False.elim h
          · exact False.elim h
        · rename_i x y
          obtain ⟨p, q, hpq, h1, h2⟩ := argsP_two ha
          have hy' : cl.args = #[p, q] := by apply Array.ext'; simpa using hpq
          split at h
          · rename_i d t t' hd hat
            split at h
            · rename_i htt
              subst htt
              have hat' : cl.argTypes = #[t, t] := by apply Array.ext'; simpa using hat
              have hO := ((hf d hd).1 0).2
              have hM := ((hf d hd).1 0).1
              split at h
              · rename_i e sz bytes ht
                unfold appOut at h
                split at h
                · rename_i τ sx τ' sy
                  split at h
                  · rename_i hz
                    obtain ⟨rfl, rfl⟩ := hz
                    simp only [Out.holds] at h
                    split at h
                    · rename_i cs cs' hk hk'
                      exact sound_appM hs he hT ho hc hy' hat' hd ht h1 h2 (.inl ⟨_, rfl, hk, rfl⟩) (.inr ⟨_, rfl, hk', h.1.1, h.1.2⟩) hO hM h.2
                    · exact False.elim h
                  · exact False.elim h
                · rename_i τ sx y' _
                  split at h
                  · rename_i sy ys hry
                    simp only [Option.bind_eq_some_iff] at hry
                    obtain ⟨dy, hdy, hry⟩ := hry
                    split at h
                    · rename_i hz
                      obtain ⟨rfl, hz⟩ := hz
                      simp only [Out.holds] at h
                      split at h
                      · rename_i cs hk
                        exact sound_appM hs he hT ho hc hy' hat' hd ht h1 h2 (.inl ⟨_, rfl, hk, rfl⟩) (.inl ⟨dy, sy, ys, hdy, hry, hz, rfl, h.1.1, h.1.2⟩) hO hM h.2
                      · exact False.elim h
                    · exact False.elim h
                  · exact False.elim h
                · rename_i q τ sy
                  split at h
                  · rename_i hz
                    subst hz
                    simp only [Out.holds] at h
                    split at h
                    · rename_i cs hk
                      exact sound_appM (csx := []) hs he hT ho hc hy' hat' hd ht h1 h2 (.inr ⟨_, rfl, rfl, rfl⟩) (.inr ⟨_, rfl, hk, by simpa using h.1.1, by simpa using h.1.2⟩) hO hM (by simpa using h.2)
                    · exact False.elim h
                  · exact False.elim h
                · rename_i q y' _
                  split at h
                  · rename_i sy ys hry
                    simp only [Option.bind_eq_some_iff] at hry
                    obtain ⟨dy, hdy, hry⟩ := hry
                    split at h
                    · rename_i hz
                      split at h
                      · exact sound_appM (csx := []) (rd := []) hs he hT ho hc hy' hat' hd ht h1 h2 (.inr ⟨_, rfl, rfl, rfl⟩) (.inl ⟨dy, sy, ys, hdy, hry, hz, rfl, by simpa using h.1.1, by simpa using h.1.2⟩) hO hM (by simpa using h.2)
                      · exact sound_append (xs := []) hs he hT ho hc hy' hat' hd ht h1 h2 hdy hry hz (.inr ⟨_, rfl, rfl, rfl⟩) (by simpa using h.1.1) (by simpa using h.1.2) hO hM (by simpa using h.2)
                    · exact False.elim h
                  · exact False.elim h
                · rename_i τ sx xs y'
                  split at h
                  · rename_i sy ys hry
                    simp only [Option.bind_eq_some_iff] at hry
                    obtain ⟨dy, hdy, hry⟩ := hry
                    split at h
                    · rename_i hz
                      obtain ⟨rfl, hz⟩ := hz
                      exact sound_append hs he hT ho hc hy' hat' hd ht h1 h2 hdy hry hz (.inl ⟨_, rfl, h.1, rfl⟩) h.2.1.1 h.2.1.2 hO hM h.2.2
                    · exact False.elim h
                  · exact False.elim h
                · exact False.elim h
              · exact False.elim h
            · exact False.elim h
          · exact False.elim h
        · exact False.elim h
      · exact False.elim h
    · exact False.elim h
  · exact False.elim h
end
end Go.Proofs.YtbeafnkcimfeeaaGreatDoor.AM
/- The abstract machine (11): an operation's effect hangs on what it reads alone; effects that are apart change places. -/
namespace Go.Proofs.YtbeafnkcimfeeaaGreatDoor.AM
set_option linter.unusedVariables false
set_option linter.unusedSimpArgs false
open Go.RowKit
set_option linter.unusedVariables false
set_option linter.unusedSimpArgs false
set_option linter.unusedSectionVars false
def OpR (P : Program) (T : Tab) (o : Oper) (σ : St) (e : Eff) : Prop := OpK P T false o σ fun e' => e' = e
section
variable {P : Program} {T : Tab} {o : Oper} {σ σ' : St} {K : Eff → Prop}
theorem OpK_both (h : OpK P T true o σ K) : OpK P T true o σ fun e => OpR P T o σ e ∧ K e := by
  unfold OpR
  unfold OpK at h ⊢
  generalize opOut T o σ = out at h ⊢
  cases out with
  | no => exact h
  | eff e => exact ⟨rfl, h⟩
  | gated p e => exact fun hp => ⟨⟨hp, rfl⟩, h hp⟩
  | need p e => exact ⟨h.1, ⟨h.1, rfl⟩, h.2⟩
  | two t x y =>
    cases t with
    | true =>
      refine ⟨fun _ => ?_, (fun q => by cases q)⟩
      have h := h.1 rfl
      cases x with
      | none => exact h
      | some v => exact ⟨⟨fun _ => rfl, (fun q => by cases q)⟩, h⟩
    | false =>
      refine ⟨(fun q => by cases q), fun _ => ?_⟩
      have h := h.2 rfl
      cases y with
      | none => exact h
      | some v => exact ⟨⟨(fun q => by cases q), fun _ => rfl⟩, h⟩
  | row p e => obtain ⟨cs, h1, h2⟩ := h; exact ⟨cs, h1, ⟨cs, h1, rfl⟩, h2⟩
  | byte p e => obtain ⟨cs, h1, h2⟩ := h; exact ⟨cs, h1, ⟨cs, h1, rfl⟩, h2⟩
  | box k f =>
    simp only [Out.holds] at h ⊢
    cases hm : σ.mem k with
    | none => rw [hm] at h; exact h
    | some cs =>
      rw [hm] at h
      simp only at h ⊢
      cases hf : f cs with
      | none => rw [hf] at h; exact h
      | some e => rw [hf] at h; simp only [hf] at h ⊢; exact ⟨trivial, h⟩
  | boxn k p f =>
    simp only [Out.holds] at h ⊢
    cases hm : σ.mem k with
    | none => rw [hm] at h; exact h
    | some cs =>
      rw [hm] at h
      simp only at h ⊢
      cases hf : f cs with
      | none => rw [hf] at h; exact h.2.elim
      | some e => rw [hf] at h; simp only [hf] at h ⊢; exact ⟨h.1, ⟨h.1, trivial⟩, h.2⟩
  | box2 k k' p f =>
    simp only [Out.holds] at h ⊢
    cases hm : σ.mem k with
    | none => rw [hm] at h; exact h
    | some cs =>
      rw [hm] at h
      cases hm' : σ.mem k' with
      | none => rw [hm'] at h; exact h
      | some cs' =>
        rw [hm'] at h
        simp only at h ⊢
        cases hf : f cs cs' with
        | none => rw [hf] at h; exact h.2.elim
        | some e => rw [hf] at h; simp only [hf] at h ⊢; exact ⟨h.1, ⟨h.1, trivial⟩, h.2⟩
  | own τ p e => exact ⟨h.1, h.2.1, ⟨h.1, h.2.1, rfl⟩, h.2.2⟩
  | call f args => obtain ⟨d, rdm, e, h1, h2, h3, h4, h5⟩ := h; exact ⟨d, rdm, e, h1, h2, h3, h4, ⟨d, rdm, e, h1, h2, h3, h4, rfl⟩, h5⟩
theorem OpK_mono {K' : Eff → Prop} {b : Bool} (hk : ∀ e, K e → K' e) (h : OpK P T b o σ K) : OpK P T b o σ K' := by
  unfold OpK at h ⊢
  generalize opOut T o σ = out at h ⊢
  cases out with
  | no => exact h
  | eff e => exact hk _ h
  | gated p e =>
    cases b with
    | true => exact fun hp => hk _ (h hp)
    | false => exact ⟨h.1, hk _ h.2⟩
  | need p e => exact ⟨h.1, hk _ h.2⟩
  | two t x y =>
    refine ⟨fun q => ?_, fun q => ?_⟩
    · have h := h.1 q
      cases x with
      | none => exact h
      | some v => exact hk _ h
    · have h := h.2 q
      cases y with
      | none => exact h
      | some v => exact hk _ h
  | row p e => obtain ⟨cs, h1, h2⟩ := h; exact ⟨cs, h1, hk _ h2⟩
  | byte p e => obtain ⟨cs, h1, h2⟩ := h; exact ⟨cs, h1, hk _ h2⟩
  | box k f =>
    simp only [Out.holds] at h ⊢
    split at h
    · split at h
      · exact hk _ h
      · exact h
    · exact h
  | boxn k p f =>
    simp only [Out.holds] at h ⊢
    split at h
    · refine ⟨h.1, ?_⟩
      have h := h.2
      split at h
      · exact hk _ h
      · exact h
    · exact h
  | box2 k k' p f =>
    simp only [Out.holds] at h ⊢
    split at h
    · refine ⟨h.1, ?_⟩
      have h := h.2
      split at h
      · exact hk _ h
      · exact h
    · exact h
  | own τ p e => exact ⟨h.1, h.2.1, hk _ h.2.2⟩
  | call f args => obtain ⟨d, rdm, e, h1, h2, h3, h4, h5⟩ := h; exact ⟨d, rdm, e, h1, h2, h3, h4, hk _ h5⟩
theorem OpR_true {e : Eff} (h : OpR P T o σ e) : OpK P T true o σ fun e' => e' = e := by
  unfold OpR at h
  unfold OpK at h ⊢
  generalize opOut T o σ = out at h ⊢
  cases out <;> first | exact h | exact fun _ => h.2
/-! ### What it hangs on -/
theorem evalD_congr {x : Operand} (h : evalO σ x = evalO σ' x) : evalD σ x = evalD σ' x := by unfold evalD; rw [h]
theorem wordO_congr {x : Option Operand} {d : Int} (h : ∀ y, x = some y → evalO σ y = evalO σ' y) : wordO σ x d = wordO σ' x d := by
  cases x with
  | none => rfl
  | some y => simp only [wordO, evalD_congr (h y rfl)]
theorem argsP_congr : ∀ {l : List Operand}, (∀ x ∈ l, evalO σ x = evalO σ' x) → argsP σ l = argsP σ' l
  | [], _ => rfl
  | x :: r, h => by unfold argsP; rw [h x (by simp), argsP_congr (l := r) (fun y hy => h y (by simp [hy]))]
theorem layP_congr {fs : List (Nat × Nat × Bool)} : ∀ {l : List (Nat × Operand)} {cs : List PV}, (∀ x ∈ l, evalO σ x.2 = evalO σ' x.2) → layP fs σ l cs = layP fs σ' l cs
  | [], _, _ => rfl
  | (k, x) :: r, cs, h => by
    unfold layP
    rw [h (k, x) (by simp)]
    have ih := fun cs => layP_congr (fs := fs) (l := r) (cs := cs) (fun y hy => h y (by simp [hy]))
    simp only [ih]
theorem rowsP_congr {i : TyI} : ∀ {l : List (Nat × Operand)} {n : Nat}, (∀ x ∈ l, evalO σ x.2 = evalO σ' x.2) → rowsP i σ l n = rowsP i σ' l n
  | [], _, _ => rfl
  | (k, x) :: r, n, h => by
    unfold rowsP
    rw [h (k, x) (by simp)]
    have ih := fun n => rowsP_congr (i := i) (l := r) (n := n) (fun y hy => h y (by simp [hy]))
    simp only [ih]
theorem rowsQ_congr {i : TyI} : ∀ {l : List (Nat × Operand)} {n : Nat}, (∀ x ∈ l, evalO σ x.2 = evalO σ' x.2) → rowsQ i σ l n = rowsQ i σ' l n
  | [], _, _ => rfl
  | (k, x) :: r, n, h => by
    unfold rowsQ
    rw [h (k, x) (by simp)]
    have ih := fun n => rowsQ_congr (i := i) (l := r) (n := n) (fun y hy => h y (by simp [hy]))
    simp only [ih]
theorem opOut_congr (hep : σ.ep = σ'.ep) (h : ∀ x ∈ o.op.operands.toList, evalO σ x = evalO σ' x) : opOut T o σ = opOut T o σ' := by
  obtain ⟨dst, op, type, pos, after, guard⟩ := o
  simp only at h
  cases op <;> simp only [Op.operands] at h <;> simp only [opOut, hep]
  case move x => rw [h x (by simp)]
  case assign x => rw [h x (by simp)]
  case pick c a b => rw [h c (by simp), h a (by simp), h b (by simp)]
  case box t x => rw [h x (by simp)]
  case build t parts =>
    have := fun fs cs => layP_congr (σ := σ) (σ' := σ') (fs := fs) (l := parts.toList) (cs := cs) (fun x hx => h x.2 (by simp; exact ⟨x.1, by simpa using hx⟩))
    simp only [this]
  case buildSlice t n parts =>
    have := fun i n => rowsP_congr (σ := σ) (σ' := σ') (i := i) (l := parts.toList) (n := n) (fun x hx => h x.2 (by simp; exact ⟨x.1, by simpa using hx⟩))
    have this2 := fun i n => rowsQ_congr (σ := σ) (σ' := σ') (i := i) (l := parts.toList) (n := n) (fun x hx => h x.2 (by simp; exact ⟨x.1, by simpa using hx⟩))
    simp only [this, this2]
  case load t a => rw [h a (by simp)]
  case store t a x => rw [h a (by simp), h x (by simp)]
  case binOp op t x y t' => rw [evalD_congr (h x (by simp)), evalD_congr (h y (by simp)), h x (by simp)]
  case convert s t x => rw [evalD_congr (h x (by simp))]
  case nilCheck x => rw [h x (by simp)]
  case makeMap t r => cases r <;> rfl
  case makeSlice t x y => rw [evalD_congr (h x (by simp)), evalD_congr (h y (by simp))]
  case unOp op t x => cases op <;> simp only [evalD_congr (h x (by simp))]
  case fieldAddr t x f => rw [h x (by simp)]
  case field t x f => rw [evalD_congr (h x (by simp)), h x (by simp)]
  case indexAddr t x i => rw [evalD_congr (h x (by simp)), evalD_congr (h i (by simp)), h x (by simp)]
  case index t x i => rw [evalD_congr (h x (by simp)), evalD_congr (h i (by simp))]
  case extract x i => rw [h x (by simp)]
  case slice t x lo hi mx =>
    have hx := evalD_congr (h x (by simp))
    have hl := fun d => wordO_congr (σ := σ) (σ' := σ') (x := lo) (d := d) (fun y hy => h y (by simp [hy]))
    have hh := fun d => wordO_congr (σ := σ) (σ' := σ') (x := hi) (d := d) (fun y hy => h y (by simp [hy]))
    have hx2 := h x (by simp)
    have hh2 : (hi.map fun y => evalD σ y) = hi.map fun y => evalD σ' y := by
      cases hi with
      | none => rfl
      | some y => simp only [Option.map_some, evalD_congr (h y (by simp))]
    cases mx <;> simp only [hx, hl, hh, hx2, hh2]
  case makeInterface t x => rw [h x (by simp)]
  case makeFunc f first cap =>
    have := argsP_congr (σ := σ) (σ' := σ') (l := cap.toList) (fun x hx => h x (by simp; exact .inr (by simpa using hx)))
    have this2 := argsP_congr (σ := σ) (σ' := σ') (l := first.toList) (fun x hx => h x (by simp; exact .inl (by simpa using hx)))
    cases f <;> simp only [this, this2]
  case call c =>
    have ha := argsP_congr (σ := σ) (σ' := σ') (l := c.args.toList) (fun x hx => h x (by simp [Call.operands]; exact .inr (by simpa using hx)))
    cases hc : c.callee with
    | value f =>
      have hf := h f (by simp [Call.operands, hc])
      simp only [hf, ha]
    | builtin b => simp only [ha]
    | invoke r m => rfl
theorem OpR_congr {e : Eff} (hep : σ.ep = σ'.ep) (h : ∀ x ∈ o.op.operands.toList, evalO σ x = evalO σ' x) (hm : ∀ k ∈ e.rd, σ.mem k = σ'.mem k) (hl : ∀ τ ∈ e.use, σ.live τ = true → σ'.live τ = true)
    (hr : OpR P T o σ e) : OpR P T o σ' e := by
  unfold OpR OpK at hr ⊢
  rw [← opOut_congr (T := T) (o := o) hep h]
  generalize opOut T o σ = out at hr ⊢
  cases out with
  | no => exact hr
  | eff e => exact hr
  | gated p e => exact hr
  | need p e => exact hr
  | two t x y => exact hr
  | row p e => exact hr
  | byte p e => exact hr
  | box k f =>
    simp only [Out.holds] at hr ⊢
    cases hk : σ.mem k with
    | none => rw [hk] at hr; exact hr.elim
    | some cs =>
      rw [hk] at hr
      simp only at hr
      cases hf : f cs with
      | none => rw [hf] at hr; exact hr.elim
      | some e' =>
        rw [hf] at hr
        simp only at hr
        subst hr
        rw [← hm k (by simp), hk]
        simp only [hf]
  | boxn k p f =>
    simp only [Out.holds] at hr ⊢
    cases hk : σ.mem k with
    | none => rw [hk] at hr; exact hr.elim
    | some cs =>
      rw [hk] at hr
      simp only at hr
      cases hf : f cs with
      | none => rw [hf] at hr; exact hr.2.elim
      | some e' =>
        rw [hf] at hr
        simp only at hr
        obtain ⟨hp, rfl⟩ := hr
        rw [← hm k (by simp), hk]
        simp only [hf]
        exact ⟨hp, trivial⟩
  | box2 k k' p f =>
    simp only [Out.holds] at hr ⊢
    cases hk : σ.mem k with
    | none => rw [hk] at hr; exact hr.elim
    | some cs =>
      rw [hk] at hr
      cases hk' : σ.mem k' with
      | none => rw [hk'] at hr; exact hr.elim
      | some cs' =>
        rw [hk'] at hr
        simp only at hr
        cases hf : f cs cs' with
        | none => rw [hf] at hr; exact hr.2.elim
        | some e' =>
          rw [hf] at hr
          simp only at hr
          obtain ⟨hp, rfl⟩ := hr
          rw [← hm k (by simp), hk, ← hm k' (by simp), hk']
          simp only [hf]
          exact ⟨hp, trivial⟩
  | own τ p e' =>
    obtain ⟨h1, h2, h3⟩ := hr
    subst h3
    exact ⟨hl τ (by simp) h1, h2, rfl⟩
  | call f args =>
    obtain ⟨d, rdm, e', h1, h2, h3, h4, h5⟩ := hr
    subst h5
    refine ⟨d, rdm, e', h1, fun p hp => ?_, fun τ hτ => hl τ hτ (h3 τ hτ), by rw [← hep]; exact h4, rfl⟩
    rw [← hm p.1 (by rw [h4.2.1]; exact List.mem_map.2 ⟨p, hp, rfl⟩)]
    exact h2 p hp
end
end Go.Proofs.YtbeafnkcimfeeaaGreatDoor.AM
/- The abstract machine (12): regions: a lexical run; which operations are apart; states of any order. -/
namespace Go.Proofs.YtbeafnkcimfeeaaGreatDoor.AM
set_option linter.unusedVariables false
set_option linter.unusedSimpArgs false
open Go.RowKit
set_option linter.unusedVariables false
set_option linter.unusedSimpArgs false
set_option linter.unusedSectionVars false
def skipE : Eff := { val := unitP }
def StepK (P : Program) (T : Tab) (ops : Array Oper) (o : Oper) (σ : St) (K : Eff → Prop) : Prop :=
  match o.guard with
  | none => OpK P T true o σ K
  | some (j, want) =>
    match ((ops[j]?).bind (·.dst)).bind σ.env with
    | some (.dat (.bool b)) => (b = want → OpK P T true o σ K) ∧ (b = !want → K skipE)
    | some (.dat (.tup [])) => K skipE
    | _ => False
def StepR (P : Program) (T : Tab) (ops : Array Oper) (o : Oper) (σ : St) (e : Eff) : Prop :=
  match o.guard with
  | none => OpR P T o σ e
  | some (j, want) =>
    match ((ops[j]?).bind (·.dst)).bind σ.env with
    | some (.dat (.bool b)) => (b = want ∧ OpR P T o σ e) ∨ (b = !want ∧ e = skipE)
    | some (.dat (.tup [])) => e = skipE
    | _ => False
def RunK (P : Program) (T : Tab) (ops : Array Oper) : List Oper → St → (St → List Eff → Prop) → Prop
  | [], σ, K => K σ []
  | o :: l, σ, K => StepK P T ops o σ fun e => RunK P T ops l (e.app o.dst σ) fun σ' es => K σ' (e :: es)
/-! ### Footprints -/
def Eff.rdS (e : Eff) : List Nat := e.rd.map (·.1)
def Eff.wrS (d : Option Nat) (e : Eff) : List Nat := e.wr.map (·.1.1) ++ (match e.al with | [] => [] | _ => [d.getD 0]) ++ e.rm.map (·.1)
def Eff.tgS (d : Option Nat) (e : Eff) : List Nat := e.use.map (·.1) ++ (match e.nw with | [] => [] | _ => [d.getD 0])
def disj (xs ys : List Nat) : Bool := xs.all fun x => !ys.contains x
theorem disj_spec {xs ys : List Nat} (h : disj xs ys = true) : ∀ x, x ∈ xs → x ∉ ys := by
  intro x hx hy
  simp only [disj, List.all_eq_true] at h
  have := h x hx
  simp [hy] at this
def apartE (ops : Array Oper) (oi oj : Oper) (ei ej : Eff) : Bool :=
  Oper.apart ops oi oj && disj (ei.wrS oi.dst) (ej.rdS ++ ej.wrS oj.dst) && disj ei.rdS (ej.wrS oj.dst) && disj (ei.tgS oi.dst) (ej.tgS oj.dst)
def bits (acc : List Nat) : List Edge → Nat
  | [] => 0
  | e :: r => if Region.binds .any e then (2 ^ e.on ||| acc.getD e.on 0) ||| bits acc r else bits acc r
def befs : List Oper → List Nat → List Nat
  | [], acc => acc
  | o :: r, acc => befs r (acc ++ [bits acc o.after.toList])
def fwdOk : List Oper → Nat → Bool
  | [], _ => true
  | o :: r, n => (o.after.toList.all fun e => !Region.binds .any e || decide (e.on < n)) && fwdOk r (n + 1)
def regOk (ops : Array Oper) (es : List Eff) : Bool :=
  fwdOk ops.toList 0 &&
  (let bf := befs ops.toList []
   (List.range ops.size).all fun j => (List.range j).all fun i =>
    (bf.getD j 0).testBit i ||
    match ops[i]?, ops[j]?, es[i]?, es[j]? with
    | some oi, some oj, some ei, some ej => apartE ops oi oj ei ej
    | _, _, _, _ => false)
/-! ### Effects that are apart change places -/
theorem wrMem_miss : ∀ {l : List (Key × List PV)} {m : Key → Option (List PV)} {k : Key}, (∀ p ∈ l, p.1.1 ≠ k.1) → wrMem l m k = m k
  | [], _, _, _ => rfl
  | (k', cs) :: r, m, k, h => by
    rw [wrMem, wrMem_miss (fun p hp => h p (by simp [hp])), upd_ne]
    exact fun e => h (k', cs) (by simp) (by rw [e])
theorem wrMem_congr : ∀ {l : List (Key × List PV)} {m m' : Key → Option (List PV)} {k : Key}, m k = m' k → wrMem l m k = wrMem l m' k
  | [], _, _, _, h => h
  | (k', cs) :: r, m, m', k, h => by
    rw [wrMem, wrMem]
    apply wrMem_congr
    unfold upd
    split
    · rfl
    · exact h
theorem rmMem_miss {ks : List Key} {m : Key → Option (List PV)} {k : Key} (h : ∀ p ∈ ks, p.1 ≠ k.1) : rmMem ks m k = m k := by
  rw [rmMem_eq, if_neg]
  exact fun q => h k q rfl
theorem rmMem_congr {ks : List Key} {m m' : Key → Option (List PV)} {k : Key} (h : m k = m' k) : rmMem ks m k = rmMem ks m' k := by
  rw [rmMem_eq, rmMem_eq, h]
theorem app_mem_miss {d : Option Nat} {e : Eff} {σ : St} {k : Key} (h : k.1 ∉ e.wrS d) : (e.app d σ).mem k = σ.mem k := by
  unfold Eff.wrS at h
  simp only [List.mem_append, not_or] at h
  show wrMem e.wr (wrMem (e.alKeys (d.getD 0) σ.ep) (rmMem e.rm σ.mem)) k = _
  rw [wrMem_miss (fun p hp q => h.1.1 (List.mem_map.2 ⟨p, hp, q⟩)), wrMem_miss, rmMem_miss (fun p hp q => h.2 (List.mem_map.2 ⟨p, hp, q⟩))]
  intro p hp q
  simp only [Eff.alKeys, List.mem_map] at hp
  obtain ⟨⟨i, cs⟩, hi, rfl⟩ := hp
  refine h.1.2 ?_
  cases ha : e.al with
  | nil => rw [ha] at hi; simp at hi
  | cons a r => simpa using q.symm
theorem app_mem_congr {d : Option Nat} {e : Eff} {σ σ' : St} {k : Key} (hep : σ.ep = σ'.ep) (h : σ.mem k = σ'.mem k) : (e.app d σ).mem k = (e.app d σ').mem k := by
  show wrMem e.wr (wrMem (e.alKeys (d.getD 0) σ.ep) (rmMem e.rm σ.mem)) k = wrMem e.wr (wrMem (e.alKeys (d.getD 0) σ'.ep) (rmMem e.rm σ'.mem)) k
  rw [hep]
  exact wrMem_congr (wrMem_congr (rmMem_congr h))
theorem app_live_miss {d : Option Nat} {e : Eff} {σ : St} {k : Key} (h : k.1 ∉ e.tgS d) : (e.app d σ).live k = σ.live k := by
  unfold Eff.tgS at h
  simp only [List.mem_append, not_or] at h
  show setLive true (e.nwKeys (d.getD 0) σ.ep) (setLive false e.use σ.live) k = _
  rw [setLive_eq, if_neg, setLive_eq, if_neg]
  · exact fun q => h.1 (List.mem_map.2 ⟨k, q, rfl⟩)
  · intro q
    simp only [Eff.nwKeys, List.mem_map] at q
    obtain ⟨i, hi, rfl⟩ := q
    refine h.2 ?_
    cases ha : e.nw with
    | nil => rw [ha] at hi; simp at hi
    | cons a r => simp
theorem app_live_congr {d : Option Nat} {e : Eff} {σ σ' : St} {k : Key} (hep : σ.ep = σ'.ep) (h : σ.live k = σ'.live k) : (e.app d σ).live k = (e.app d σ').live k := by
  show setLive true (e.nwKeys (d.getD 0) σ.ep) (setLive false e.use σ.live) k = setLive true (e.nwKeys (d.getD 0) σ'.ep) (setLive false e.use σ'.live) k
  rw [setLive_eq, setLive_eq, setLive_eq, setLive_eq, hep, h]
theorem app_env_miss {d : Option Nat} {e : Eff} {σ : St} {t : Nat} (h : d ≠ some t) : (e.app d σ).env t = σ.env t := by
  cases d with
  | none => rfl
  | some d => exact upd_ne _ _ (fun q => h (by rw [q]))
theorem app_env_congr {d : Option Nat} {e : Eff} {σ σ' : St} {t : Nat} (h : σ.env t = σ'.env t) : (e.app d σ).env t = (e.app d σ').env t := by
  cases d with
  | none => exact h
  | some d =>
    show upd σ.env d _ t = upd σ'.env d _ t
    unfold upd
    split
    · rfl
    · exact h
theorem St.ext' {σ σ' : St} (h1 : ∀ t, σ.env t = σ'.env t) (h2 : ∀ k, σ.mem k = σ'.mem k) (h3 : ∀ k, σ.live k = σ'.live k) (h4 : σ.ep = σ'.ep) : σ = σ' := by
  cases σ; cases σ'
  simp only at h1 h2 h3 h4
  obtain rfl := funext h1
  obtain rfl := funext h2
  obtain rfl := funext h3
  subst h4
  rfl
def Comm (di : Option Nat) (ei : Eff) (dj : Option Nat) (ej : Eff) : Prop :=
  (∀ d, di = some d → dj ≠ some d) ∧ (∀ x, x ∈ ei.wrS di → x ∉ ej.wrS dj) ∧ ∀ x, x ∈ ei.tgS di → x ∉ ej.tgS dj
theorem app_comm {di dj : Option Nat} {ei ej : Eff} (h : Comm di ei dj ej) (σ : St) : ei.app di (ej.app dj σ) = ej.app dj (ei.app di σ) := by
  obtain ⟨h1, h2, h3⟩ := h
  refine St.ext' (fun t => ?_) (fun k => ?_) (fun k => ?_) rfl
  · by_cases q : di = some t
    · rw [app_env_miss (d := dj) (h1 t q)]
      exact app_env_congr (app_env_miss (h1 t q))
    · rw [app_env_miss q]
      exact app_env_congr (app_env_miss q).symm
  · by_cases q : k.1 ∈ ei.wrS di
    · rw [app_mem_miss (d := dj) (e := ej) (h2 _ q)]
      exact app_mem_congr rfl (app_mem_miss (h2 _ q))
    · rw [app_mem_miss q]
      exact app_mem_congr rfl (app_mem_miss q).symm
  · by_cases q : k.1 ∈ ei.tgS di
    · rw [app_live_miss (d := dj) (e := ej) (h3 _ q)]
      exact app_live_congr rfl (app_live_miss (h3 _ q))
    · rw [app_live_miss q]
      exact app_live_congr rfl (app_live_miss q).symm
/-! ### States of any order -/
def stS : List (Option Nat × Eff) → (Nat → Bool) → St → St
  | [], _, σ => σ
  | (d, e) :: r, S, σ => stS r (fun n => S (n + 1)) (if S 0 = true then e.app d σ else σ)
theorem stS_ep : ∀ (tr : List (Option Nat × Eff)) (S : Nat → Bool) (σ : St), (stS tr S σ).ep = σ.ep
  | [], _, _ => rfl
  | (d, e) :: r, S, σ => by rw [stS, stS_ep r]; split <;> rfl
theorem stS_env : ∀ (tr : List (Option Nat × Eff)) (S S' : Nat → Bool) (σ σ' : St) (t : Nat), σ.env t = σ'.env t → (∀ (j : Nat) (e : Eff), tr[j]? = some (some t, e) → S j = S' j) → (stS tr S σ).env t = (stS tr S' σ').env t
  | [], _, _, _, _, _, h, _ => h
  | (d, e) :: r, S, S', σ, σ', t, h, hj => by
    rw [stS, stS]
    refine stS_env r _ _ _ _ t ?_ (fun j e he => hj (j + 1) e he)
    by_cases q : d = some t
    · subst q
      rw [hj 0 e rfl]
      split
      · exact app_env_congr h
      · exact h
    · split <;> split <;> simp only [app_env_miss q, h]
theorem stS_mem : ∀ (tr : List (Option Nat × Eff)) (S S' : Nat → Bool) (σ σ' : St) (k : Key), σ.ep = σ'.ep → σ.mem k = σ'.mem k → (∀ (j : Nat) (d : Option Nat) (e : Eff), tr[j]? = some (d, e) → k.1 ∈ e.wrS d → S j = S' j) → (stS tr S σ).mem k = (stS tr S' σ').mem k
  | [], _, _, _, _, _, _, h, _ => h
  | (d, e) :: r, S, S', σ, σ', k, hep, h, hj => by
    rw [stS, stS]
    refine stS_mem r _ _ _ _ k (by split <;> split <;> exact hep) ?_ (fun j d e he => hj (j + 1) d e he)
    by_cases q : k.1 ∈ e.wrS d
    · rw [hj 0 d e rfl q]
      split
      · exact app_mem_congr hep h
      · exact h
    · split <;> split <;> simp only [app_mem_miss q, h]
theorem stS_live : ∀ (tr : List (Option Nat × Eff)) (S S' : Nat → Bool) (σ σ' : St) (k : Key), σ.ep = σ'.ep → σ.live k = σ'.live k → (∀ (j : Nat) (d : Option Nat) (e : Eff), tr[j]? = some (d, e) → k.1 ∈ e.tgS d → S j = S' j) → (stS tr S σ).live k = (stS tr S' σ').live k
  | [], _, _, _, _, _, _, h, _ => h
  | (d, e) :: r, S, S', σ, σ', k, hep, h, hj => by
    rw [stS, stS]
    refine stS_live r _ _ _ _ k (by split <;> split <;> exact hep) ?_ (fun j d e he => hj (j + 1) d e he)
    by_cases q : k.1 ∈ e.tgS d
    · rw [hj 0 d e rfl q]
      split
      · exact app_live_congr hep h
      · exact h
    · split <;> split <;> simp only [app_live_miss q, h]
theorem app_stS (d : Option Nat) (e : Eff) : ∀ (tr : List (Option Nat × Eff)) (S : Nat → Bool) (σ : St), (∀ (j : Nat) (d' : Option Nat) (e' : Eff), tr[j]? = some (d', e') → S j = true → Comm d e d' e') → e.app d (stS tr S σ) = stS tr S (e.app d σ)
  | [], _, _, _ => rfl
  | (d', e') :: r, S, σ, h => by
    rw [stS, stS, app_stS d e r _ _ (fun j d'' e'' hj hs => h (j + 1) d'' e'' hj hs)]
    congr 1
    split
    · rename_i hs; exact app_comm (h 0 d' e' rfl hs) σ
    · rfl
theorem stS_add : ∀ (tr : List (Option Nat × Eff)) (S : Nat → Bool) (σ : St) (i : Nat) (d : Option Nat) (e : Eff), tr[i]? = some (d, e) → S i = false →
    (∀ (j : Nat) (d' : Option Nat) (e' : Eff), i < j → tr[j]? = some (d', e') → S j = true → Comm d e d' e') → e.app d (stS tr S σ) = stS tr (fun n => if n = i then true else S n) σ
  | [], _, _, i, _, _, h, _, _ => by simp at h
  | (d', e') :: r, S, σ, 0, d, e, h, hS, hc => by
    simp only [List.getElem?_cons_zero, Option.some.injEq, Prod.mk.injEq] at h
    obtain ⟨rfl, rfl⟩ := h
    rw [stS, stS]
    simp only [hS, if_true, Bool.false_eq_true, if_false]
    rw [app_stS d' e' r _ _ (fun j d'' e'' hj hs => hc (j + 1) d'' e'' (by omega) hj hs)]
    congr 1
  | (d', e') :: r, S, σ, i + 1, d, e, h, hS, hc => by
    rw [stS, stS, stS_add r (fun n => S (n + 1)) _ i d e h hS (fun j d'' e'' hij hj hs => hc (j + 1) d'' e'' (by omega) hj hs)]
    have h0 : (if (0 : Nat) = i + 1 then true else S 0) = S 0 := by simp
    rw [h0]
    congr 1
    funext n
    by_cases q : n = i
    · subst q; simp
    · simp [q]
end Go.Proofs.YtbeafnkcimfeeaaGreatDoor.AM
/- The abstract machine (13): regions are sound, in their text's order and in any. -/
namespace Go.Proofs.YtbeafnkcimfeeaaGreatDoor.AM
set_option linter.unusedVariables false
set_option linter.unusedSimpArgs false
open Go.RowKit
set_option linter.unusedVariables false
set_option linter.unusedSimpArgs false
set_option linter.unusedSectionVars false
structure Fr (fp : Nat → Prop) (w0 : World) (K0 : Cfg) (w : World) (c : Cfg) : Prop where
  os : w.os = w0.os
  tape : w.tape = w0.tape
  output : w.output = w0.output
  size : w0.heap.size ≤ w.heap.size
  blk : ∀ b, b < w0.heap.size → ¬ fp b → w.heap[b]? = w0.heap[b]?
  kn : ∀ b o, b < w0.heap.size → ¬ fp b → c.K b o = K0.K b o
  kle : ∀ b o v, K0.K b o = some v → c.K b o = some v
  mB : ∀ k b, c.M k = some b → w0.heap.size ≤ b ∨ fp b
  oB : ∀ τ x, c.O τ = some x → ∀ g, x.1.ownBlock = some g → w0.heap.size ≤ g ∨ fp g
  le0 : K0.le c
  old : ∀ k : Key, k.2.2 = 0 → c.M k = K0.M k ∧ c.O k = K0.O k
theorem Fr.step {fp : Nat → Prop} {w0 : World} {K0 : Cfg} {w w' : World} {c c' : Cfg} {σ : St} {dst : Option Nat} {e : Eff} (h : Fr fp w0 K0 w c) (s : StepF σ dst e w w' c c') (hp : 0 < σ.ep) : Fr fp w0 K0 w' c' := by
  have ti : ∀ b, touched e c b → w0.heap.size ≤ b ∨ fp b := by
    rintro b (⟨p, _, hm⟩ | ⟨τ, _, x, hx, hg⟩ | ⟨k, _, hm⟩)
    · exact h.mB _ _ hm
    · exact h.oB _ _ hx _ hg
    · exact h.mB _ _ hm
  have nt : ∀ b, b < w0.heap.size → ¬ fp b → ¬ touched e c b := by
    intro b hb hf ht
    rcases ti b ht with h1 | h1
    · omega
    · exact hf h1
  have hsz := h.size
  refine ⟨s.os.trans h.os, s.tape.trans h.tape, s.output.trans h.output, Nat.le_trans h.size s.size, fun b hb hf => ?_, fun b o hb hf => ?_, fun b o v hk => s.le.K _ _ _ (h.kle b o v hk), fun k b hk => ?_, fun τ x hx g hg => ?_, h.le0.trans s.le, fun k hk => ?_⟩
  rotate_right
  · obtain ⟨h1, h2⟩ := h.old k hk
    constructor
    · rw [← h1]
      cases hm : c'.M k with
      | none =>
        cases hm2 : c.M k with
        | none => rfl
        | some b => rw [s.le.M k b hm2] at hm; cases hm
      | some b =>
        rcases s.mn k b hm with q | ⟨⟨i, _, rfl⟩ | ⟨i, cs, _, rfl⟩, _⟩
        · exact q.symm
        · simp only at hk; omega
        · simp only at hk; omega
    · rw [← h2]
      cases hm : c'.O k with
      | none =>
        cases hm2 : c.O k with
        | none => rfl
        | some b => rw [s.le.O k b hm2] at hm; cases hm
      | some b =>
        rcases s.on k b hm with q | ⟨⟨i, _, rfl⟩ | ⟨i, cs, _, rfl⟩, _⟩
        · exact q.symm
        · simp only at hk; omega
        · simp only at hk; omega
  · rw [s.blk b (by omega) (nt b hb hf), h.blk b hb hf]
  · rw [s.kn b o (by omega) (nt b hb hf), h.kn b o hb hf]
  · rcases s.mn k b hk with h1 | ⟨_, h1 | h1⟩
    · exact h.mB k b h1
    · exact .inl (by omega)
    · exact ti b h1
  · rcases s.on τ x hx with h1 | ⟨_, h1⟩
    · exact h.oB τ x h1 g hg
    · rcases h1 g hg with h2 | h2
      · exact .inl (by omega)
      · exact ti g h2
structure Sim (N : Nat) (fp : Nat → Prop) (w0 : World) (K0 : Cfg) (σ : St) (a : Act) (w : World) (c : Cfg) : Prop where
  hs : HS σ w c
  env : EnvOk σ a c
  fr : Fr fp w0 K0 w c
  nodef : a.defers = []
  size : a.tmps.size = N
def Fresh (D : Nat → Prop) (ep : Nat) (c : Cfg) : Prop :=
  (∀ k b, c.M k = some b → k.2.2 < ep ∨ (k.2.2 = ep ∧ D k.1)) ∧ ∀ k x, c.O k = some x → k.2.2 < ep ∨ (k.2.2 = ep ∧ D k.1)
section
variable {P : Program} {T : Tab} {N : Nat} {fp : Nat → Prop} {w0 : World} {K0 : Cfg}
theorem Sim.step {σ : St} {a : Act} {w w' : World} {c c' : Cfg} {dst : Option Nat} {e : Eff} {v : Value} (h : Sim N fp w0 K0 σ a w c) (s : StepF σ dst e w w' c c') (hv : RepP c' e.val v) (hb : ∀ d, dst = some d → d < N) (hp : 0 < σ.ep) :
    Sim N fp w0 K0 (e.app dst σ) (a.put dst v) w' c' := by
  refine ⟨s.hs, fun t x hx => ?_, h.fr.step s hp, ?_, ?_⟩
  · cases dst with
    | none =>
      obtain ⟨y, h1, h2⟩ := h.env t x hx
      exact ⟨y, h1, h2.mono s.le⟩
    | some d =>
      by_cases q : t = d
      · subst q
        have : (e.app (some t) σ).env t = some e.val := upd_same _ _ _
        rw [this] at hx
        obtain rfl := Option.some.inj hx
        exact ⟨v, by simp [Act.put, h.size, hb t rfl], hv⟩
      · rw [app_env_miss (fun e => q (Option.some.inj e).symm)] at hx
        obtain ⟨y, h1, h2⟩ := h.env t x hx
        exact ⟨y, by simp only [Act.put]; rw [Array.getElem?_setIfInBounds_ne (fun e => q e.symm)]; exact h1, h2.mono s.le⟩
  · cases dst <;> exact h.nodef
  · cases dst with
    | none => exact h.size
    | some d => simp [Act.put, h.size]
theorem stepF_skip {σ : St} {w : World} {c : Cfg} (h : HS σ w c) (dst : Option Nat) : StepF σ dst skipE w w c c := stepF_same h dst unitP []
theorem rep_unit (c : Cfg) : RepP c unitP undef := .dat _ _ (.tup [] #[] rfl (fun j d hj => by simp at hj))
theorem yielded_bool {ops : Array Oper} {σ : St} {a : Act} {c : Cfg} (he : EnvOk σ a c) {j : Nat} {b : Bool} (h : ((ops[j]?).bind (·.dst)).bind σ.env = some (.dat (.bool b))) : yielded ops a.tmps j = some b := by
  simp only [Option.bind_eq_some_iff] at h
  obtain ⟨d, ⟨o, ho, hd⟩, hv⟩ := h
  obtain ⟨x, h1, h2⟩ := he d _ hv
  cases h2 with
  | dat _ _ h =>
    cases h
    simp [yielded, ho, hd, h1]
theorem yielded_undef {ops : Array Oper} {σ : St} {a : Act} {c : Cfg} (he : EnvOk σ a c) {j : Nat} (h : ((ops[j]?).bind (·.dst)).bind σ.env = some (.dat (.tup []))) : yielded ops a.tmps j = none := by
  simp only [Option.bind_eq_some_iff] at h
  obtain ⟨d, ⟨o, ho, hd⟩, hv⟩ := h
  obtain ⟨x, h1, h2⟩ := he d _ hv
  cases h2 with
  | dat _ _ h =>
    cases h
    simp [yielded, ho, hd, h1]
theorem wpOp_step (hT : ∀ t i, T t = some i → i.Good P t) {ops : Array Oper} {o : Oper} {i : Nat} (ho : ops[i]? = some o) {σ : St} {a : Act} {w : World} {c : Cfg} {K : Eff → Prop} {K' : Act → World → Prop} {Q : Exit → Act → World → Prop}
    (hs : HS σ w c) (he : EnvOk σ a c) (hf : ∀ d, o.dst = some d → FreshAt c d σ.ep) (h : StepK P T ops o σ K)
    (hK : ∀ e, K e → Next σ o a w c K' e) : wpOp P ops Q i K' a w := by
  unfold wpOp
  simp only [ho]
  have skip : K skipE → K' (a.put o.dst undef) w := fun hk => hK _ hk undef w c (rep_unit c) (stepF_skip hs o.dst)
  unfold StepK at h
  unfold Region.wanted
  cases hg : o.guard with
  | none =>
    rw [hg] at h
    simp only [if_true]
    exact .inl (OpK_sound hT hs he hf (OpK_mono hK h))
  | some p =>
    obtain ⟨j, want⟩ := p
    rw [hg] at h
    simp only at h ⊢
    split at h
    · rename_i b hb
      by_cases q : b = want
      · rw [if_pos (by simp [yielded_bool he hb, q])]
        exact .inl (OpK_sound hT hs he hf (OpK_mono hK (h.1 q)))
      · rw [if_neg (by simp [yielded_bool he hb, q])]
        exact skip (h.2 (by cases b <;> cases want <;> simp_all))
    · rename_i hb
      rw [if_neg (by simp [yielded_undef he hb])]
      exact skip h
    · exact h.elim
theorem Fresh.grow {D : Nat → Prop} {ep : Nat} {c c' : Cfg} {σ : St} {dst : Option Nat} {e : Eff} {w w' : World} (h : Fresh D ep c) (hep : σ.ep = ep) (s : StepF σ dst e w w' c c') (hd : dst = none → e.al = [] ∧ e.nw = []) : Fresh (fun s => D s ∨ dst = some s) ep c' := by
  subst hep
  refine ⟨fun k b hk => ?_, fun k x hx => ?_⟩
  · rcases s.mn k b hk with h1 | ⟨⟨i, hi, rfl⟩ | ⟨i, cs, hi, rfl⟩, _⟩
    · rcases h.1 k b h1 with h2 | h2
      · exact .inl h2
      · exact .inr ⟨h2.1, .inl h2.2⟩
    · cases dst with
      | none => rw [(hd rfl).2] at hi; simp at hi
      | some d => exact .inr ⟨rfl, .inr rfl⟩
    · cases dst with
      | none => rw [(hd rfl).1] at hi; simp at hi
      | some d => exact .inr ⟨rfl, .inr rfl⟩
  · rcases s.on k x hx with h1 | ⟨⟨i, hi, rfl⟩ | ⟨i, cs, hi, rfl⟩, _⟩
    · rcases h.2 k x h1 with h2 | h2
      · exact .inl h2
      · exact .inr ⟨h2.1, .inl h2.2⟩
    · cases dst with
      | none => rw [(hd rfl).2] at hi; simp at hi
      | some d => exact .inr ⟨rfl, .inr rfl⟩
    · cases dst with
      | none => rw [(hd rfl).1] at hi; simp at hi
      | some d => exact .inr ⟨rfl, .inr rfl⟩
theorem Fresh.free {D : Nat → Prop} {ep : Nat} {c : Cfg} (h : Fresh D ep c) {d : Nat} (hd : ¬ D d) : FreshAt c d ep := by
  refine ⟨fun i => ?_, fun k hk => ?_⟩
  rotate_left
  · constructor
    · cases hm : c.M k with
      | none => rfl
      | some b => rcases h.1 _ _ hm with h1 | h1 <;> omega
    · cases hm : c.O k with
      | none => rfl
      | some b => rcases h.2 _ _ hm with h1 | h1 <;> omega
  constructor
  · cases hm : c.M (d, i, ep) with
    | none => rfl
    | some b =>
      rcases h.1 _ _ hm with h1 | h1
      · exact absurd h1 (Nat.lt_irrefl _)
      · exact absurd h1.2 hd
  · cases hm : c.O (d, i, ep) with
    | none => rfl
    | some b =>
      rcases h.2 _ _ hm with h1 | h1
      · exact absurd h1 (Nat.lt_irrefl _)
      · exact absurd h1.2 hd
def isStore : Op → Bool
  | .store .. => true
  | _ => false
def dstOk (N : Nat) : List Oper → Bool
  | [] => true
  | o :: r => (match o.dst with | some d => decide (d < N) && r.all (fun o' => o'.dst != some d) | none => isStore o.op) && dstOk N r
theorem dstOk_cons {N : Nat} {o : Oper} {r : List Oper} (h : dstOk N (o :: r) = true) : (∀ d, o.dst = some d → d < N ∧ ∀ o' ∈ r, o'.dst ≠ some d) ∧ (o.dst = none → isStore o.op = true) ∧ dstOk N r = true := by
  simp only [dstOk, Bool.and_eq_true] at h
  refine ⟨fun d hd => ?_, fun hd => ?_, h.2⟩
  · rw [hd] at h
    simp only [Bool.and_eq_true, decide_eq_true_eq, List.all_eq_true, bne_iff_ne] at h
    exact h.1
  · rw [hd] at h
    exact h.1
theorem OpR_store {o : Oper} {σ : St} {e : Eff} (h : OpR P T o σ e) (hs : isStore o.op = true) : e.al = [] ∧ e.nw = [] := by
  unfold isStore at hs
  split at hs
  · rename_i t x y ho
    unfold OpR OpK opOut at h
    rw [ho] at h
    simp only at h
    split at h
    · split at h
      · simp only [Out.holds] at h
        split at h
        · split at h
          · rename_i e' hl
            unfold storeOut at hl
            split at hl <;> simp at hl
            subst hl
            subst h
            exact ⟨rfl, rfl⟩
          · exact h.elim
        · exact h.elim
      · exact h.elim
    · exact h.elim
  · cases hs
theorem StepR_store {ops : Array Oper} {o : Oper} {σ : St} {e : Eff} (h : StepR P T ops o σ e) (hs : isStore o.op = true) : e.al = [] ∧ e.nw = [] := by
  unfold StepR at h
  split at h
  · exact OpR_store h hs
  · split at h
    · rcases h with ⟨_, h⟩ | ⟨_, rfl⟩
      · exact OpR_store h hs
      · exact ⟨rfl, rfl⟩
    · subst h; exact ⟨rfl, rfl⟩
    · exact h.elim
theorem StepK_both {ops : Array Oper} {o : Oper} {σ : St} {K : Eff → Prop} (h : StepK P T ops o σ K) : StepK P T ops o σ fun e => StepR P T ops o σ e ∧ K e := by
  unfold StepK at h ⊢
  cases hg : o.guard with
  | none => rw [hg] at h; exact OpK_mono (fun e he => ⟨by unfold StepR; rw [hg]; exact he.1, he.2⟩) (OpK_both h)
  | some p =>
    obtain ⟨j, want⟩ := p
    rw [hg] at h
    simp only at h ⊢
    split at h
    · rename_i b hb
      refine ⟨fun q => OpK_mono (fun e he => ⟨?_, he.2⟩) (OpK_both (h.1 q)), fun q => ⟨?_, h.2 q⟩⟩
      · unfold StepR; rw [hg]; simp only [hb]; exact .inl ⟨q, he.1⟩
      · unfold StepR; rw [hg]; simp only [hb]; exact .inr ⟨q, trivial⟩
    · rename_i hb
      refine ⟨?_, h⟩
      unfold StepR; rw [hg]; simp only [hb]
    · exact h
theorem StepK_mono {ops : Array Oper} {o : Oper} {σ : St} {K K' : Eff → Prop} (hk : ∀ e, K e → K' e) (h : StepK P T ops o σ K) : StepK P T ops o σ K' := by
  unfold StepK at h ⊢
  cases hg : o.guard with
  | none => rw [hg] at h; exact OpK_mono hk h
  | some p =>
    obtain ⟨j, want⟩ := p
    rw [hg] at h
    simp only at h ⊢
    split at h
    · exact ⟨fun q => OpK_mono hk (h.1 q), fun q => hk _ (h.2 q)⟩
    · exact hk _ h
    · exact h
theorem StepR_true {ops : Array Oper} {o : Oper} {σ : St} {e : Eff} (h : StepR P T ops o σ e) : StepK P T ops o σ fun e' => e' = e := by
  unfold StepR at h
  unfold StepK
  cases hg : o.guard with
  | none => rw [hg] at h; exact OpR_true h
  | some p =>
    obtain ⟨j, want⟩ := p
    rw [hg] at h
    simp only at h ⊢
    split at h
    · rename_i b hb
      rcases h with ⟨q, h⟩ | ⟨q, h⟩
      · exact ⟨fun _ => OpR_true h, (fun q2 => by rw [q] at q2; cases want <;> cases q2)⟩
      · exact ⟨(fun q2 => by rw [q] at q2; cases want <;> cases q2), fun _ => h.symm⟩
    · exact h.symm
    · exact h.elim
theorem region_lex (hT : ∀ t i, T t = some i → i.Good P t) {ops : Array Oper} {Q : Exit → Act → World → Prop} :
    ∀ (l : List Oper) (k : Nat) (D : Nat → Prop) (σ : St) (a : Act) (w : World) (c : Cfg) (K : St → List Eff → Prop), (∀ j, l[j]? = ops[k + j]?) → dstOk N l = true → (∀ o ∈ l, ∀ d, o.dst = some d → ¬ D d) →
      Sim N fp w0 K0 σ a w c → Fresh D σ.ep c → 0 < σ.ep → RunK P T ops l σ K →
      (∀ σ' a' w' c' es, K σ' es → σ'.ep = σ.ep → Sim N fp w0 K0 σ' a' w' c' → Fresh (fun _ => True) σ.ep c' → Q .normal a' w') →
      wpOps P ops Q (List.range' k l.length) a w
  | [], k, D, σ, a, w, c, K, hl, hd, hD, hs, hf, hp, h, hQ => hQ σ a w c [] h rfl hs ⟨fun k b hk => (hf.1 k b hk).imp id fun h => ⟨h.1, trivial⟩, fun k b hk => (hf.2 k b hk).imp id fun h => ⟨h.1, trivial⟩⟩
  | o :: l, k, D, σ, a, w, c, K, hl, hd, hD, hs, hf, hp, h, hQ => by
    have h0 : ops[k]? = some o := by simpa using (hl 0).symm
    obtain ⟨hd1, hd2, hd3⟩ := dstOk_cons hd
    rw [List.length_cons, List.range'_succ, wpOps_cons]
    refine wpOp_step hT h0 hs.hs hs.env (fun d hdd => hf.free (hD o (by simp) d hdd)) (StepK_both h) (fun e he => ?_)
    intro v w' c' hv hst
    have hs' := hs.step hst hv (fun d hdd => (hd1 d hdd).1) hp
    have hf' := hf.grow rfl hst (fun hn => StepR_store he.1 (hd2 hn))
    exact region_lex hT l (k + 1) _ _ _ w' c' _ (fun j => by have := hl (j + 1); simpa [Nat.add_assoc, Nat.add_comm 1 j] using this) hd3
      (fun o' ho' d hd' => by
        rintro (h1 | h1)
        · exact hD o' (by simp [ho']) d hd' h1
        · exact (hd1 d h1).2 o' ho' hd') hs' hf' hp he.2 (fun σ' a' w' c' es hk hep hs' hf' => hQ σ' a' w' c' _ hk hep hs' hf')
theorem wp_exists {o : Oper} {a : Act} {w : World} {K : Act → World → Prop} (h : o.wp P a w K (fun _ _ _ => False)) : ∃ a' w', K a' w' := by
  unfold Oper.wp at h
  cases hr : (execOp a.eval o).run P w with
  | ok n w' =>
    rw [hr] at h
    cases n <;> simp only [Oper.upon] at h
    case value v => exact ⟨_, _, h⟩
    case skip => exact ⟨_, _, h⟩
    case defer d => exact ⟨_, _, h⟩
    case enter f args =>
      obtain ⟨e, w'', fr, hR, _⟩ := h []
      cases e with
      | returned v => exact ⟨_, _, hR⟩
      | panicked ch => exact hR.elim
      | outgrown => obtain ⟨_, _, hR⟩ := hR; exact hR.elim
    case row row args =>
      obtain ⟨v, w'', hR, _⟩ := h (default : Frame) []
      exact ⟨_, _, hR⟩
  | halt x w' =>
    rw [hr] at h
    cases x <;> simp only [Oper.upon] at h
theorem wpOp_exists {ops : Array Oper} {i : Nat} {a : Act} {w : World} {K : Act → World → Prop} (h : wpOp P ops (fun _ _ _ => False) i K a w) : ∃ a' w', K a' w' := by
  unfold wpOp at h
  split at h
  · exact ⟨_, _, h⟩
  · split at h
    · rcases h with h | ⟨_, _, _, h⟩
      · exact wp_exists h
      · exact h.elim
    · exact ⟨_, _, h⟩
theorem run_trace (hT : ∀ t i, T t = some i → i.Good P t) {ops : Array Oper} :
    ∀ (l : List Oper) (k : Nat) (D : Nat → Prop) (σ : St) (a : Act) (w : World) (c : Cfg) (K : St → List Eff → Prop), (∀ j, l[j]? = ops[k + j]?) → dstOk N l = true → (∀ o ∈ l, ∀ d, o.dst = some d → ¬ D d) →
      Sim N fp w0 K0 σ a w c → Fresh D σ.ep c → 0 < σ.ep → RunK P T ops l σ K →
      ∃ tr : List (Option Nat × Eff), tr.length = l.length ∧ (∀ (j : Nat) (o : Oper), l[j]? = some o → ∃ e, tr[j]? = some (o.dst, e) ∧ StepR P T ops o (stS tr (fun n => decide (n < j)) σ) e) ∧ K (stS tr (fun _ => true) σ) (tr.map (·.2))
  | [], k, D, σ, a, w, c, K, hl, hd, hD, hs, hf, hp, h => ⟨[], rfl, fun j o hj => by simp at hj, h⟩
  | o :: l, k, D, σ, a, w, c, K, hl, hd, hD, hs, hf, hp, h => by
    have h0 : ops[k]? = some o := by simpa using (hl 0).symm
    obtain ⟨hd1, hd2, hd3⟩ := dstOk_cons hd
    have hw := wpOp_step (Q := fun _ _ _ => False) (K' := fun _ _ => ∃ e, StepR P T ops o σ e ∧ ∃ tr : List (Option Nat × Eff), tr.length = l.length ∧
        (∀ (j : Nat) (o' : Oper), l[j]? = some o' → ∃ e', tr[j]? = some (o'.dst, e') ∧ StepR P T ops o' (stS tr (fun n => decide (n < j)) (e.app o.dst σ)) e') ∧ K (stS tr (fun _ => true) (e.app o.dst σ)) (e :: tr.map (·.2)))
      hT h0 hs.hs hs.env (fun d hdd => hf.free (hD o (by simp) d hdd)) (StepK_both h) (fun e he => by
        intro v w' c' hv hst
        have hs' := hs.step hst hv (fun d hdd => (hd1 d hdd).1) hp
        have hf' := hf.grow rfl hst (fun hn => StepR_store he.1 (hd2 hn))
        exact ⟨e, he.1, run_trace hT l (k + 1) _ _ _ w' c' _ (fun j => by have := hl (j + 1); simpa [Nat.add_assoc, Nat.add_comm 1 j] using this) hd3
          (fun o' ho' d hd' => by
            rintro (h1 | h1)
            · exact hD o' (by simp [ho']) d hd' h1
            · exact (hd1 d h1).2 o' ho' hd') hs' hf' hp he.2⟩)
    obtain ⟨_, _, e, he, tr, h1, h2, h3⟩ := wpOp_exists hw
    refine ⟨(o.dst, e) :: tr, by simp [h1], fun j o' hj => ?_, ?_⟩
    · cases j with
      | zero =>
        simp only [List.getElem?_cons_zero, Option.some.injEq] at hj
        subst hj
        refine ⟨e, rfl, ?_⟩
        have : stS ((o.dst, e) :: tr) (fun n => decide (n < 0)) σ = σ := by
          have : ∀ (tr : List (Option Nat × Eff)) (σ : St), stS tr (fun _ => false) σ = σ := by
            intro tr
            induction tr with
            | nil => intro σ; rfl
            | cons p r ih => intro σ; obtain ⟨d, e⟩ := p; rw [stS]; exact ih σ
          rw [show (fun n => decide (n < 0)) = (fun _ : Nat => false) from by funext n; simp]
          exact this _ σ
        rw [this]; exact he
      | succ j =>
        obtain ⟨e', h4, h5⟩ := h2 j o' (by simpa using hj)
        refine ⟨e', by simpa using h4, ?_⟩
        rw [stS]
        simpa using h5
    · rw [stS]
      simpa using h3
end
end Go.Proofs.YtbeafnkcimfeeaaGreatDoor.AM
/- The abstract machine (14): a region in any order. -/
namespace Go.Proofs.YtbeafnkcimfeeaaGreatDoor.AM
set_option linter.unusedVariables false
set_option linter.unusedSimpArgs false
open Go.RowKit
set_option linter.unusedVariables false
set_option linter.unusedSimpArgs false
set_option linter.unusedSectionVars false
theorem bits_spec (acc : List Nat) : ∀ (es : List Edge) (i : Nat), (bits acc es).testBit i = true → ∃ e ∈ es, Region.binds .any e = true ∧ (e.on = i ∨ (acc.getD e.on 0).testBit i = true)
  | [], i, h => by simp [bits] at h
  | e :: r, i, h => by
    unfold bits at h
    split at h
    · rename_i hb
      rw [Nat.testBit_or, Nat.testBit_or, Nat.testBit_two_pow, Bool.or_eq_true, Bool.or_eq_true] at h
      rcases h with (h | h) | h
      · exact ⟨e, by simp, hb, .inl (by simpa using h)⟩
      · exact ⟨e, by simp, hb, .inr h⟩
      · obtain ⟨e', h1, h2⟩ := bits_spec acc r i h
        exact ⟨e', by simp [h1], h2⟩
    · obtain ⟨e', h1, h2⟩ := bits_spec acc r i h
      exact ⟨e', by simp [h1], h2⟩
theorem befs_spec : ∀ (l : List Oper) (acc : List Nat) (j : Nat), (∀ i, i < acc.length → (befs l acc).getD i 0 = acc.getD i 0) ∧
    ∀ o, l[j]? = some o → ∃ acc', (∀ i, i < acc'.length → acc'.getD i 0 = (befs l acc).getD i 0) ∧ acc'.length = acc.length + j ∧ (befs l acc).getD (acc.length + j) 0 = bits acc' o.after.toList
  | [], acc, j => ⟨fun _ _ => rfl, fun o h => by simp at h⟩
  | o :: r, acc, j => by
    rw [befs]
    refine ⟨fun i hi => ?_, fun o' ho => ?_⟩
    · rw [(befs_spec r (acc ++ [bits acc o.after.toList]) 0).1 i (by simp; omega)]
      simp [List.getD, List.getElem?_append_left hi]
    · cases j with
      | zero =>
        simp only [List.getElem?_cons_zero, Option.some.injEq] at ho
        subst ho
        refine ⟨acc, fun i hi => ?_, rfl, ?_⟩
        · rw [(befs_spec r (acc ++ [bits acc o.after.toList]) 0).1 i (by simp; omega)]
          simp [List.getD, List.getElem?_append_left hi]
        · rw [(befs_spec r (acc ++ [bits acc o.after.toList]) 0).1 _ (by simp)]
          simp [List.getD]
      | succ j =>
        obtain ⟨acc', h1, h2, h3⟩ := (befs_spec r (acc ++ [bits acc o.after.toList]) j).2 o' (by simpa using ho)
        refine ⟨acc', h1, by rw [h2]; simp; omega, ?_⟩
        rw [← h3]
        congr 1
        simp; omega
theorem fwdOk_spec : ∀ (l : List Oper) (n j : Nat) (o : Oper), fwdOk l n = true → l[j]? = some o → ∀ e ∈ o.after, Region.binds .any e = true → e.on < n + j
  | [], _, _, _, _, h => by simp at h
  | o :: r, n, 0, o', h, hj => by
    simp only [List.getElem?_cons_zero, Option.some.injEq] at hj
    subst hj
    simp only [fwdOk, Bool.and_eq_true, List.all_eq_true] at h
    intro e he hb
    have := h.1 e (by simpa using he)
    simpa [hb] using this
  | o :: r, n, j + 1, o', h, hj => by
    simp only [fwdOk, Bool.and_eq_true] at h
    intro e he hb
    have := fwdOk_spec r (n + 1) j o' h.2 (by simpa using hj) e he hb
    omega
def Closed (ops : Array Oper) (S : Nat → Bool) : Prop := ∀ j o, ops[j]? = some o → S j = true → ∀ e ∈ o.after, Region.binds .any e = true → S e.on = true
theorem Closed.before {ops : Array Oper} {S : Nat → Bool} (hc : Closed ops S) (hfw : fwdOk ops.toList 0 = true) : ∀ (j i : Nat), j < ops.size → ((befs ops.toList []).getD j 0).testBit i = true → S j = true → S i = true := by
  intro j
  induction j using Nat.strongRecOn with
  | _ j ih =>
    intro i hj hb hS
    have ho : ops.toList[j]? = some ops[j] := by simp [hj]
    obtain ⟨acc', h1, h2, h3⟩ := (befs_spec ops.toList [] j).2 ops[j] ho
    simp only [List.length_nil, Nat.zero_add] at h2 h3
    rw [h3] at hb
    obtain ⟨e, he, hbd, hor⟩ := bits_spec acc' _ i hb
    have hSe := hc j ops[j] (by simp [hj]) hS e (by simpa using he) hbd
    rcases hor with rfl | hor
    · exact hSe
    · have hlt := fwdOk_spec ops.toList 0 j ops[j] hfw ho e (by simpa using he) hbd
      rw [h1 _ (by rw [h2]; omega)] at hor
      exact ih e.on (by omega) i (by omega) hor hSe
theorem regOk_spec {ops : Array Oper} {es : List Eff} (h : regOk ops es = true) : fwdOk ops.toList 0 = true ∧ ∀ i j, i < j → j < ops.size → ((befs ops.toList []).getD j 0).testBit i = true ∨
    ∃ oi oj ei ej, ops[i]? = some oi ∧ ops[j]? = some oj ∧ es[i]? = some ei ∧ es[j]? = some ej ∧ apartE ops oi oj ei ej = true := by
  unfold regOk at h
  simp only [Bool.and_eq_true, List.all_eq_true, List.mem_range, Bool.or_eq_true] at h
  refine ⟨h.1, fun i j hij hj => ?_⟩
  rcases h.2 j hj i hij with h | h
  · exact .inl h
  · right
    split at h
    · rename_i oi oj ei ej h1 h2 h3 h4
      exact ⟨oi, oj, ei, ej, h1, h2, h3, h4, h⟩
    · cases h
theorem apartE_spec {ops : Array Oper} {oi oj : Oper} {ei ej : Eff} (h : apartE ops oi oj ei ej = true) :
    (∀ d, oi.dst = some d → d ∉ oj.looksAt ops) ∧ (∀ d, oi.dst = some d → oj.dst ≠ some d) ∧ (∀ d, oj.dst = some d → d ∉ oi.looksAt ops) ∧
      (∀ x, x ∈ ei.wrS oi.dst → x ∉ ej.rdS ∧ x ∉ ej.wrS oj.dst) ∧ (∀ x, x ∈ ei.rdS → x ∉ ej.wrS oj.dst) ∧ ∀ x, x ∈ ei.tgS oi.dst → x ∉ ej.tgS oj.dst := by
  unfold apartE at h
  simp only [Bool.and_eq_true] at h
  obtain ⟨⟨⟨h1, h2⟩, h3⟩, h4⟩ := h
  obtain ⟨a1, a2, a3⟩ := Oper.apart_spec h1
  refine ⟨a1, a2, a3, fun x hx => ?_, disj_spec h3, disj_spec h4⟩
  have := disj_spec h2 x hx
  simp only [List.mem_append, not_or] at this
  exact this
section
variable {P : Program} {T : Tab} {N : Nat} {fp : Nat → Prop} {w0 : World} {K0 : Cfg}
theorem evalO_env {σ σ' : St} {x : Operand} (h : ∀ t, x = .tmp t → σ.env t = σ'.env t) : evalO σ x = evalO σ' x := by
  cases x with
  | tmp t => exact h t rfl
  | _ => rfl
theorem StepR_congr {ops : Array Oper} {o : Oper} {σ σ' : St} {e : Eff} (hep : σ.ep = σ'.ep) (h : ∀ t ∈ o.looksAt ops, σ.env t = σ'.env t) (hm : ∀ k ∈ e.rd, σ.mem k = σ'.mem k) (hl : ∀ τ ∈ e.use, σ.live τ = true → σ'.live τ = true)
    (hr : StepR P T ops o σ e) : StepR P T ops o σ' e := by
  have hop : ∀ x ∈ o.op.operands.toList, evalO σ x = evalO σ' x := fun x hx => evalO_env fun t ht => h t (List.mem_append_left _ (List.mem_filterMap.2 ⟨x, hx, by subst ht; rfl⟩))
  unfold StepR at hr ⊢
  cases hg : o.guard with
  | none => rw [hg] at hr; exact OpR_congr hep hop hm hl hr
  | some p =>
    obtain ⟨j, want⟩ := p
    rw [hg] at hr
    simp only at hr ⊢
    have henv : ((ops[j]?).bind (·.dst)).bind σ.env = ((ops[j]?).bind (·.dst)).bind σ'.env := by
      cases hd : (ops[j]?).bind (·.dst) with
      | none => rfl
      | some d => exact h d (List.mem_append_right _ (by simp [hg, hd]))
    rw [← henv]
    split at hr
    · rcases hr with ⟨q, hr⟩ | hr
      · exact .inl ⟨q, OpR_congr hep hop hm hl hr⟩
      · exact .inr hr
    · exact hr
    · exact hr.elim
structure Trace (P : Program) (T : Tab) (ops : Array Oper) (σ : St) (tr : List (Option Nat × Eff)) : Prop where
  len : tr.length = ops.size
  step : ∀ (j : Nat) (o : Oper), ops[j]? = some o → ∃ e, tr[j]? = some (o.dst, e) ∧ StepR P T ops o (stS tr (fun n => decide (n < j)) σ) e
  ok : regOk ops (tr.map (·.2)) = true
theorem Trace.pair {ops : Array Oper} {σ : St} {tr : List (Option Nat × Eff)} (h : Trace P T ops σ tr) {i j : Nat} (hij : i < j) {di dj : Option Nat} {ei ej : Eff} (hi : tr[i]? = some (di, ei)) (hj : tr[j]? = some (dj, ej)) :
    ((befs ops.toList []).getD j 0).testBit i = true ∨ ∃ oi oj, ops[i]? = some oi ∧ ops[j]? = some oj ∧ oi.dst = di ∧ oj.dst = dj ∧ apartE ops oi oj ei ej = true := by
  have hlt : j < ops.size := by rw [← h.len]; exact (List.getElem?_eq_some_iff.1 hj).1
  rcases (regOk_spec h.ok).2 i j hij hlt with h1 | ⟨oi, oj, ei', ej', h1, h2, h3, h4, h5⟩
  · exact .inl h1
  · right
    simp only [List.getElem?_map, hi, hj, Option.map_some, Option.some.injEq] at h3 h4
    subst h3; subst h4
    obtain ⟨e1, k1, _⟩ := h.step i oi h1
    obtain ⟨e2, k2, _⟩ := h.step j oj h2
    rw [hi] at k1; rw [hj] at k2
    simp only [Option.some.injEq, Prod.mk.injEq] at k1 k2
    exact ⟨oi, oj, h1, h2, k1.1.symm, k2.1.symm, h5⟩
theorem Trace.at_ {ops : Array Oper} {σ : St} {tr : List (Option Nat × Eff)} (h : Trace P T ops σ tr) {S : Nat → Bool} (hc : Closed ops S) {i : Nat} {o : Oper} (hi : ops[i]? = some o) (hS : S i = false)
    (hr : ∀ e ∈ o.after, Region.binds .any e = true → S e.on = true) :
    ∃ e, tr[i]? = some (o.dst, e) ∧ StepR P T ops o (stS tr S σ) e ∧ e.app o.dst (stS tr S σ) = stS tr (fun n => if n = i then true else S n) σ := by
  obtain ⟨e, he, hst⟩ := h.step i o hi
  have hfw := (regOk_spec h.ok).1
  have hlt : i < ops.size := (Array.getElem?_eq_some_iff.1 hi).1
  -- what comes before i has run
  have hpre : ∀ j, ((befs ops.toList []).getD i 0).testBit j = true → S j = true := by
    intro j hj
    have hc' : Closed ops (fun n => if n = i then true else S n) := by
      intro k ok hk hSk e' he' hb'
      by_cases q : k = i
      · subst q
        rw [hi] at hk
        obtain rfl := Option.some.inj hk
        have := hr e' he' hb'
        simp only; split <;> simp_all
      · simp only [q, if_false] at hSk
        have := hc k ok hk hSk e' he' hb'
        simp only; split <;> simp_all
    have := hc'.before hfw i j hlt hj (by simp)
    by_cases q : j = i
    · subst q
      -- an operation does not come before itself
      have hbf : ∀ (n m : Nat), n < ops.size → ((befs ops.toList []).getD n 0).testBit m = true → m < n := by
        intro n
        induction n using Nat.strongRecOn with
        | _ n ih =>
          intro m hn hb
          have ho : ops.toList[n]? = some ops[n] := by simp [hn]
          obtain ⟨acc', h1, h2, h3⟩ := (befs_spec ops.toList [] n).2 ops[n] ho
          simp only [List.length_nil, Nat.zero_add] at h2 h3
          rw [h3] at hb
          obtain ⟨e', he', hbd, hor⟩ := bits_spec acc' _ m hb
          have hl := fwdOk_spec ops.toList 0 n ops[n] hfw ho e' (by simpa using he') hbd
          rcases hor with rfl | hor
          · omega
          · rw [h1 _ (by rw [h2]; omega)] at hor
            have := ih e'.on (by omega) m (by omega) hor
            omega
      exact absurd (hbf j j hlt hj) (Nat.lt_irrefl _)
    · simpa [q] using this
  have hpost : ∀ j, j < ops.size → S j = true → ((befs ops.toList []).getD j 0).testBit i = true → False := by
    intro j hj hSj hb
    have := hc.before hfw j i hj hb hSj
    rw [hS] at this; cases this
  -- what touches the same things is on the side on which it is in the text
  have side : ∀ (j : Nat) (d' : Option Nat) (e' : Eff), tr[j]? = some (d', e') → (∀ oj, ops[j]? = some oj → oj.dst = d' → (j < i → apartE ops oj o e' e = true → False) ∧ (i < j → apartE ops o oj e e' = true → False)) → j ≠ i → S j = decide (j < i) := by
    intro j d' e' hj hno hne
    have hjl : j < ops.size := by rw [← h.len]; exact (List.getElem?_eq_some_iff.1 hj).1
    rcases Nat.lt_or_gt_of_ne hne with hlt' | hgt
    · rw [decide_eq_true hlt']
      rcases h.pair hlt' hj he with h1 | ⟨oj, oi, h1, h2, h3, h4, h5⟩
      · exact hpre j h1
      · rw [hi] at h2
        obtain rfl := Option.some.inj h2
        exact ((hno oj h1 h3).1 hlt' h5).elim
    · rw [decide_eq_false (by omega)]
      cases hSj : S j with
      | false => rfl
      | true =>
        rcases h.pair hgt he hj with h1 | ⟨oi, oj, h1, h2, h3, h4, h5⟩
        · exact (hpost j hjl hSj h1).elim
        · rw [hi] at h1
          obtain rfl := Option.some.inj h1
          exact ((hno oj h2 h4).2 hgt h5).elim
  refine ⟨e, he, ?_, ?_⟩
  · refine StepR_congr (by rw [stS_ep, stS_ep]) (fun t ht => ?_) (fun k hk => ?_) (fun τ hτ hl => ?_) hst
    · refine (stS_env tr _ _ σ σ t rfl (fun j e' hj => ?_)).symm
      by_cases q : j = i
      · subst q; rw [hS]; simp
      · exact side j _ e' hj (fun oj ho hd => ⟨fun _ hap => (apartE_spec hap).1 t hd ht, fun _ hap => (apartE_spec hap).2.2.1 t hd ht⟩) q
    · refine (stS_mem tr _ _ σ σ k rfl rfl (fun j d' e' hj hw => ?_)).symm
      by_cases q : j = i
      · subst q; rw [hS]; simp
      · exact side j _ e' hj (fun oj ho hd => ⟨fun _ hap => ((apartE_spec hap).2.2.2.1 k.1 (by rw [hd]; exact hw)).1 (List.mem_map.2 ⟨k, hk, rfl⟩), fun _ hap => (apartE_spec hap).2.2.2.2.1 k.1 (List.mem_map.2 ⟨k, hk, rfl⟩) (by rw [hd]; exact hw)⟩) q
    · rw [stS_live tr S (fun n => decide (n < i)) σ σ τ rfl rfl (fun j d' e' hj hw => ?_)]
      · exact hl
      · by_cases q : j = i
        · subst q; rw [hS]; simp
        · have hin : τ.1 ∈ e.tgS o.dst := by unfold Eff.tgS; exact List.mem_append_left _ (List.mem_map.2 ⟨τ, hτ, rfl⟩)
          exact side j _ e' hj (fun oj ho hd => ⟨fun _ hap => (apartE_spec hap).2.2.2.2.2 τ.1 (by rw [hd]; exact hw) hin, fun _ hap => (apartE_spec hap).2.2.2.2.2 τ.1 hin (by rw [hd]; exact hw)⟩) q
  · refine stS_add tr S σ i o.dst e he hS (fun j d' e' hij hj hSj => ?_)
    have hjl : j < ops.size := by rw [← h.len]; exact (List.getElem?_eq_some_iff.1 hj).1
    rcases h.pair hij he hj with h1 | ⟨oi, oj, h1, h2, h3, h4, h5⟩
    · exact (hpost j hjl hSj h1).elim
    · rw [hi] at h1
      obtain rfl := Option.some.inj h1
      obtain ⟨_, a2, _, a4, _, a6⟩ := apartE_spec h5
      subst h4
      exact ⟨a2, fun x hx => (a4 x hx).2, a6⟩
theorem countP_setL : ∀ (l : List Bool) (i : Nat), l[i]? = some false → (l.set i true).countP (fun b => !b) + 1 = l.countP (fun b => !b)
  | [], i, h => by simp at h
  | a :: r, 0, h => by simp at h; subst h; simp
  | a :: r, i + 1, h => by
    have := countP_setL r i (by simpa using h)
    simp only [List.set_cons_succ, List.countP_cons]
    omega
theorem countP_set {l : Array Bool} {i : Nat} (h : l[i]? = some false) : ((l.setIfInBounds i true).toList.countP (fun b => !b)) + 1 = l.toList.countP (fun b => !b) := by
  rw [Array.toList_setIfInBounds]
  exact countP_setL _ _ (by simpa using h)
theorem region_any (hT : ∀ t i, T t = some i → i.Good P t) {ops : Array Oper} {Q : Exit → Act → World → Prop} {σ : St} {tr : List (Option Nat × Eff)} (h : Trace P T ops σ tr) (hd : dstOk N ops.toList = true) (hp : 0 < σ.ep)
    (hQ : ∀ a' w' c', Sim N fp w0 K0 (stS tr (fun _ => true) σ) a' w' c' → Fresh (fun _ => True) σ.ep c' → Q .normal a' w') :
    ∀ (fuel : Nat) (listed : Array Bool) (a : Act) (w : World) (c : Cfg), listed.size = ops.size → listed.toList.countP (fun b => !b) = fuel → Closed ops (fun n => listed.getD n false) →
      Sim N fp w0 K0 (stS tr (fun n => listed.getD n false) σ) a w c → Fresh (fun s => ∃ i o, ops[i]? = some o ∧ listed.getD i false = true ∧ o.dst = some s) σ.ep c → wpAny P .any ops Q fuel listed a w := by
  have hfw := (regOk_spec h.ok).1
  have hdst : ∀ (i j : Nat) (oi oj : Oper) (d : Nat), ops[i]? = some oi → ops[j]? = some oj → oi.dst = some d → oj.dst = some d → i = j := by
    have : ∀ (l : List Oper), dstOk N l = true → ∀ (i j : Nat) (oi oj : Oper) (d : Nat), l[i]? = some oi → l[j]? = some oj → oi.dst = some d → oj.dst = some d → i = j := by
      intro l
      induction l with
      | nil => intro _ i j oi oj d hi; simp at hi
      | cons o r ih =>
        intro hok i j oi oj d hi hj hdi hdj
        obtain ⟨h1, _, h3⟩ := dstOk_cons hok
        cases i with
        | zero =>
          cases j with
          | zero => rfl
          | succ j =>
            simp at hi hj; subst hi
            exact absurd hdj ((h1 d hdi).2 oj (List.mem_of_getElem? hj))
        | succ i =>
          cases j with
          | zero =>
            simp at hi hj; subst hj
            exact absurd hdi ((h1 d hdj).2 oi (List.mem_of_getElem? hi))
          | succ j => rw [ih h3 i j oi oj d (by simpa using hi) (by simpa using hj) hdi hdj]
    intro i j oi oj d hi hj
    exact this ops.toList hd i j oi oj d (by simpa using hi) (by simpa using hj)
  have hall : ∀ (listed : Array Bool), listed.size = ops.size → (∀ i, i < ops.size → listed.getD i false = true) → ∀ (c : Cfg), (fun n => listed.getD n false) = (fun n => listed.getD n false) := fun _ _ _ _ => rfl
  have hst_all : ∀ (listed : Array Bool), listed.size = ops.size → (∀ i, i < ops.size → listed.getD i false = true) → stS tr (fun n => listed.getD n false) σ = stS tr (fun _ => true) σ := by
    intro listed hs hi
    have hj : ∀ (j : Nat) (x : Option Nat × Eff), tr[j]? = some x → listed.getD j false = true := fun j x hx => hi j (by rw [← h.len]; exact (List.getElem?_eq_some_iff.1 hx).1)
    exact St.ext' (fun t => stS_env tr _ _ σ σ t rfl (fun j e he => hj j _ he)) (fun k => stS_mem tr _ _ σ σ k rfl rfl (fun j d e he _ => hj j _ he)) (fun k => stS_live tr _ _ σ σ k rfl rfl (fun j d e he _ => hj j _ he)) (by rw [stS_ep, stS_ep])
  -- when nothing is ready, all have run
  have hready : ∀ (listed : Array Bool), listed.size = ops.size → Region.ready .any ops listed = [] → ∀ i, i < ops.size → listed.getD i false = true := by
    intro listed hs hr i
    induction i using Nat.strongRecOn with
    | _ i ih =>
      intro hi
      cases hb : listed.getD i false with
      | true => rfl
      | false =>
        have hmem : i ∈ Region.ready .any ops listed := by
          rw [mem_ready]
          refine ⟨by simpa [hs, hi] using hb, ops[i], by simp [hi], fun e he hbd => ?_⟩
          have := fwdOk_spec ops.toList 0 i ops[i] hfw (by simp [hi]) e he hbd
          exact ih e.on (by omega) (by omega)
        rw [hr] at hmem; cases hmem
  have fin : ∀ (listed : Array Bool) (a : Act) (w : World) (c : Cfg), listed.size = ops.size → (∀ i, i < ops.size → listed.getD i false = true) → Sim N fp w0 K0 (stS tr (fun n => listed.getD n false) σ) a w c →
      Fresh (fun s => ∃ i o, ops[i]? = some o ∧ listed.getD i false = true ∧ o.dst = some s) σ.ep c → Q .normal a w := by
    intro listed a w c hs hi hsim hf
    rw [hst_all listed hs hi] at hsim
    exact hQ a w c hsim ⟨fun k b hk => (hf.1 k b hk).imp id fun h => ⟨h.1, trivial⟩, fun k b hk => (hf.2 k b hk).imp id fun h => ⟨h.1, trivial⟩⟩
  intro fuel
  induction fuel with
  | zero =>
    intro listed a w c hs hcnt hc hsim hf
    have hi : ∀ i, i < ops.size → listed.getD i false = true := by
      intro i hi
      cases hb : listed.getD i false with
      | true => rfl
      | false =>
        have : listed[i]? = some false := by
          have hlt : i < listed.size := by omega
          simp [hlt] at hb ⊢
          exact hb
        have := countP_set this
        omega
    refine ⟨?_, fin listed a w c hs hi hsim hf⟩
    cases hr : Region.ready .any ops listed with
    | nil => rfl
    | cons i r =>
      have hm : i ∈ Region.ready .any ops listed := by rw [hr]; simp
      obtain ⟨h0, o, ho, _⟩ := mem_ready.1 hm
      have hlt := (Array.getElem?_eq_some_iff.1 ho).1
      have := hi i hlt
      simp [hs, hlt] at h0 this
      rw [h0] at this; cases this
  | succ fuel ih =>
    intro listed a w c hs hcnt hc hsim hf
    refine ⟨fun hr => fin listed a w c hs (hready listed hs hr) hsim hf, fun i hi => ?_⟩
    obtain ⟨h0, o, ho, hall⟩ := mem_ready.1 hi
    have hlt := (Array.getElem?_eq_some_iff.1 ho).1
    have hli : listed[i]? = some false := by simp [hs, hlt] at h0 ⊢; exact h0
    have hS : listed.getD i false = false := by simp [hli]
    obtain ⟨e, he, hst, happ⟩ := h.at_ (S := fun n => listed.getD n false) hc ho hS (fun e he hb => hall e he hb)
    have hd2 : o.dst = none → isStore o.op = true := by
      have : ∀ (l : List Oper), dstOk N l = true → ∀ o ∈ l, (o.dst = none → isStore o.op = true) ∧ ∀ d, o.dst = some d → d < N := by
        intro l
        induction l with
        | nil => intro _ o ho; simp at ho
        | cons o' r ih' =>
          intro hok o ho
          obtain ⟨k1, k2, k3⟩ := dstOk_cons hok
          rcases List.mem_cons.1 ho with rfl | ho
          · exact ⟨k2, fun d hd => (k1 d hd).1⟩
          · exact ih' k3 o ho
      exact (this ops.toList hd o (by simpa using Array.mem_of_getElem? ho)).1
    have hdN : ∀ d, o.dst = some d → d < N := by
      have : ∀ (l : List Oper), dstOk N l = true → ∀ o ∈ l, ∀ d, o.dst = some d → d < N := by
        intro l
        induction l with
        | nil => intro _ o ho; simp at ho
        | cons o' r ih' =>
          intro hok o ho
          obtain ⟨k1, k2, k3⟩ := dstOk_cons hok
          rcases List.mem_cons.1 ho with rfl | ho
          · exact fun d hd => (k1 d hd).1
          · exact ih' k3 o ho
      exact this ops.toList hd o (by simpa using Array.mem_of_getElem? ho)
    have hfn : (fun n => (listed.setIfInBounds i true).getD n false) = (fun n => if n = i then true else listed.getD n false) := by
      funext n
      by_cases q : n = i
      · subst q; simp [hs, hlt]
      · simp only [q, if_false]
        exact getD_set_ne false (fun e => q e.symm)
    refine wpOp_step hT ho hsim.hs hsim.env (fun d hdd => ?_) (StepR_true hst) (fun e' he' => ?_)
    · rw [stS_ep]
      exact hf.free (fun ⟨j, oj, hj, hl, hdj⟩ => by
        obtain rfl := hdst i j o oj d ho hj hdd hdj
        rw [hS] at hl; cases hl)
    · subst he'
      intro v w' c' hv hstep
      have hsim' := hsim.step hstep hv hdN (by rw [stS_ep]; exact hp)
      rw [happ, ← hfn] at hsim'
      have hf' := hf.grow (stS_ep _ _ _) hstep (fun hn => StepR_store hst (hd2 hn))
      refine ih (listed.setIfInBounds i true) _ w' c' (by simp [hs]) (by have := countP_set hli; omega) ?_ hsim' ?_
      · rw [hfn]
        intro k ok hk hSk e' he' hb'
        by_cases q : k = i
        · subst q
          rw [ho] at hk; obtain rfl := Option.some.inj hk
          have := hall e' he' hb'
          simp only; split
          · rfl
          · exact this
        · simp only [q, if_false] at hSk
          have := hc k ok hk hSk e' he' hb'
          simp only; split
          · rfl
          · exact this
      · refine ⟨fun k b hk => (hf'.1 k b hk).imp id fun hh => ⟨hh.1, ?_⟩, fun k b hk => (hf'.2 k b hk).imp id fun hh => ⟨hh.1, ?_⟩⟩
        all_goals
          rcases hh.2 with ⟨j, oj, hj, hl, hdj⟩ | hdj
          · exact ⟨j, oj, hj, getD_set_true hl, hdj⟩
          · exact ⟨i, o, ho, by simp [hs, hlt], hdj⟩
end
end Go.Proofs.YtbeafnkcimfeeaaGreatDoor.AM
/- The abstract machine (15): code, functions. -/
namespace Go.Proofs.YtbeafnkcimfeeaaGreatDoor.AM
set_option linter.unusedVariables false
set_option linter.unusedSimpArgs false
open Go.RowKit
set_option linter.unusedVariables false
set_option linter.unusedSimpArgs false
set_option linter.unusedSectionVars false
/-! ### States as lists -/
structure LSt where
  env : List (Nat × PV)
  mem : List (Key × List PV)
  live : List (Key × Bool)
  ep : Nat
def lookE : List (Nat × PV) → Nat → Option PV
  | [], _ => none
  | (k, v) :: r, t => if t = k then some v else lookE r t
def lookM : List (Key × List PV) → Key → Option (List PV)
  | [], _ => none
  | (k, v) :: r, t => if t = k then some v else lookM r t
def lookB : List (Key × Bool) → Key → Bool
  | [], _ => false
  | (k, v) :: r, t => if t = k then v else lookB r t
def LSt.den (s : LSt) : St := { env := lookE s.env, mem := lookM s.mem, live := lookB s.live, ep := s.ep }
def pushM : List (Key × List PV) → List (Key × List PV) → List (Key × List PV)
  | [], m => m
  | p :: r, m => pushM r (p :: m)
def pushB (v : Bool) : List Key → List (Key × Bool) → List (Key × Bool)
  | [], m => m
  | k :: r, m => pushB v r ((k, v) :: m)
def delM1 (k : Key) : List (Key × List PV) → List (Key × List PV)
  | [] => []
  | (k', v) :: r => if k' = k then delM1 k r else (k', v) :: delM1 k r
def delM : List Key → List (Key × List PV) → List (Key × List PV)
  | [], m => m
  | k :: r, m => delM r (delM1 k m)
theorem lookM_del1 (k : Key) : ∀ (m : List (Key × List PV)), lookM (delM1 k m) = upd (lookM m) k none
  | [] => by funext x; simp [delM1, lookM, upd]
  | (k', v) :: r => by
    funext x
    unfold delM1
    split
    · rename_i q
      subst q
      rw [lookM_del1 k' r]
      by_cases q : x = k'
      · subst q; rw [upd_same, upd_same]
      · rw [upd_ne _ _ q, upd_ne _ _ q]; simp [lookM, q]
    · rename_i q
      unfold lookM
      rw [lookM_del1 k r]
      by_cases q2 : x = k
      · subst q2
        rw [if_neg (fun e => q e.symm), upd_same, upd_same]
      · rw [upd_ne _ _ q2, upd_ne _ _ q2]
        rfl
theorem lookM_del : ∀ (ks : List Key) (m : List (Key × List PV)), lookM (delM ks m) = rmMem ks (lookM m)
  | [], _ => rfl
  | k :: r, m => by rw [delM, rmMem, lookM_del r, lookM_del1]
def appL (dst : Option Nat) (e : Eff) (s : LSt) : LSt :=
  { env := match dst with | some d => (d, e.val) :: s.env | none => s.env
    mem := pushM e.wr (pushM (e.alKeys (dst.getD 0) s.ep) (delM e.rm s.mem))
    live := pushB true (e.nwKeys (dst.getD 0) s.ep) (pushB false e.use s.live)
    ep := s.ep }
theorem lookM_push : ∀ (l m : List (Key × List PV)), lookM (pushM l m) = wrMem l (lookM m)
  | [], _ => rfl
  | (k, cs) :: r, m => by
    rw [pushM, wrMem, lookM_push r]
    congr 1
theorem lookB_push (v : Bool) : ∀ (l : List Key) (m : List (Key × Bool)), lookB (pushB v l m) = setLive v l (lookB m)
  | [], _ => rfl
  | k :: r, m => by
    rw [pushB, setLive, lookB_push v r]
    congr 1
theorem appL_den (dst : Option Nat) (e : Eff) (s : LSt) : (appL dst e s).den = e.app dst s.den := by
  unfold appL LSt.den Eff.app
  simp only [lookM_push, lookB_push, lookM_del]
  cases dst <;> rfl
structure LSt.le (s' s : LSt) : Prop where
  env : ∀ t v, lookE s'.env t = some v → lookE s.env t = some v
  mem : ∀ k cs, lookM s'.mem k = some cs → lookM s.mem k = some cs
  live : ∀ k, lookB s'.live k = true → lookB s.live k = true
  ep : s.ep ≤ s'.ep
theorem LSt.le.refl (s : LSt) : s.le s := ⟨fun _ _ h => h, fun _ _ h => h, fun _ h => h, Nat.le_refl _⟩
def RunL (P : Program) (T : Tab) (ops : Array Oper) : List Oper → LSt → (LSt → List Eff → Prop) → Prop
  | [], s, K => K s []
  | o :: l, s, K => StepK P T ops o s.den fun e => RunL P T ops l (appL o.dst e s) fun s' es => K s' (e :: es)
theorem RunL_RunK {P : Program} {T : Tab} {ops : Array Oper} : ∀ (l : List Oper) (s : LSt) (K : LSt → List Eff → Prop), RunL P T ops l s K → RunK P T ops l s.den fun σ es => ∃ s', σ = s'.den ∧ K s' es
  | [], s, K, h => ⟨s, rfl, h⟩
  | o :: l, s, K, h => StepK_mono (fun e he => by
      have := RunL_RunK l _ _ he
      rw [appL_den] at this
      exact this) h
def thenQ (next : LSt → Prop) (Q : Exit → LSt → Prop) : Exit → LSt → Prop
  | .normal, s => next s
  | e, s => Q e s
def blockQ (id : Nat) (Q : Exit → LSt → Prop) : Exit → LSt → Prop
  | .exit id', s => if id' = id then Q .normal s else Q (.exit id') s
  | e, s => Q e s
def noGotoQ (Q : Exit → LSt → Prop) : Exit → LSt → Prop
  | .goto _, _ => False
  | e, s => Q e s
def SimL (N : Nat) (fp : Nat → Prop) (w0 : World) (K0 : Cfg) (s : LSt) (a : Act) (w : World) (c : Cfg) : Prop := Sim N fp w0 K0 s.den a w c ∧ Fresh (fun _ => True) s.ep c
def Upd (s s' : LSt) : Prop := ∀ (N : Nat) (fp : Nat → Prop) (w0 : World) (K0 : Cfg) (a : Act) (w : World) (c : Cfg), SimL N fp w0 K0 s a w c → ∃ c', SimL N fp w0 K0 s' a w c'
theorem Upd.refl (s : LSt) : Upd s s := fun _ _ _ _ _ _ c h => ⟨c, h⟩
def AWp (P : Program) (T : Tab) (N : Nat) : Code → (Exit → LSt → Prop) → LSt → Prop
  | .skip, Q, s => Q .normal s
  | .label _, Q, s => Q .normal s
  | .region _ ops draw, Q, s => dstOk N ops.toList = true ∧ ∃ s1, Upd s s1 ∧ RunL P T ops ops.toList { s1 with ep := s1.ep + 1 } fun s' es => (draw = true → regOk ops es = true) ∧ Q .normal s'
  | .seq a b, Q, s => AWp P T N a (thenQ (AWp P T N b Q) Q) s
  | .cond c x y, Q, s =>
    match evalO s.den c with
    | some (.dat (.bool b)) => (b = true → AWp P T N x Q s) ∧ (b = false → AWp P T N y Q s)
    | _ => False
  | .block id body, Q, s => AWp P T N body (blockQ id Q) s
  | .scope body, Q, s => AWp P T N body (noGotoQ Q) s
  | .loop body, Q, s => ∃ (I : Nat → LSt → Prop) (n : Nat) (s0 : LSt), s0.le s ∧ I n s0 ∧
      ∀ n s, I n s → AWp P T N body (thenQ (fun s' => ∃ m s'', m < n ∧ s''.le s' ∧ I m s'') Q) s
  | .exit id, Q, s => Q (.exit id) s
  | .ret, Q, s => Q .ret s
  | _, _, _ => False
section
variable {P : Program} {T : Tab} {N : Nat} {fp : Nat → Prop} {w0 : World} {K0 : Cfg}
theorem SimL.weak {s s' : LSt} {a : Act} {w : World} {c : Cfg} (h : SimL N fp w0 K0 s a w c) (hl : s'.le s) : SimL N fp w0 K0 s' a w c := by
  obtain ⟨h, hf⟩ := h
  refine ⟨⟨⟨h.hs.kin, fun k cs hk => h.hs.box k cs (hl.mem k cs hk), h.hs.mlt, fun k cs b hk => h.hs.mblk k cs b (hl.mem k cs hk), fun k k' c1 c2 b hk hk' => h.hs.minj k k' c1 c2 b (hl.mem k c1 hk) (hl.mem k' c2 hk'),
      fun τ ht => let ⟨x, e, sz, n, xs, g1, g2, g3⟩ := h.hs.own τ (hl.live τ ht); ⟨x, e, sz, n, xs, g1, g2, fun g hg => ⟨(g3 g hg).1, fun k cs hk => (g3 g hg).2 k cs (hl.mem k cs hk)⟩⟩, fun τ τ' x x' g a b => h.hs.odis τ τ' x x' g (hl.live τ a) (hl.live τ' b), h.hs.gk⟩,
    fun t v hv => h.env t v (hl.env t v hv), h.fr, h.nodef, h.size⟩, ?_, ?_⟩
  · intro k b hk
    have := hl.ep
    rcases hf.1 k b hk with h1 | ⟨h1, _⟩
    · exact .inl (by omega)
    · rcases Nat.lt_or_ge k.2.2 s'.ep with h2 | h2
      · exact .inl h2
      · exact .inr ⟨by omega, trivial⟩
  · intro k b hk
    have := hl.ep
    rcases hf.2 k b hk with h1 | ⟨h1, _⟩
    · exact .inl (by omega)
    · rcases Nat.lt_or_ge k.2.2 s'.ep with h2 | h2
      · exact .inl h2
      · exact .inr ⟨by omega, trivial⟩
theorem wp_loopN {c : Code} {Q : Exit → Act → World → Prop} (I : Nat → Act → World → Prop) (round : ∀ n a w, I n a w → c.wp P (Exit.then (fun a' w' => ∃ m, m < n ∧ I m a' w') Q) a w) :
    ∀ n a w, I n a w → (Code.loop c).wp P Q a w := by
  intro n a w h0 b k cs
  have key : ∀ n a w, I n a w → ∃ e a' w', Q e a' w' ∧ Arrives P (lone (b.at a (.code c :: .inLoop c :: k)) cs w) b k cs e a' w' := by
    intro n
    induction n using Nat.strongRecOn with
    | _ n ih =>
      intro a w hI
      obtain ⟨e, a₁, w₁, hq, harr⟩ := round n a w hI b (.inLoop c :: k) cs
      cases e with
      | normal =>
        obtain ⟨m, hlt, hI₁⟩ := hq
        obtain ⟨e₂, a₂, w₂, hq₂, harr₂⟩ := ih m hlt a₁ w₁ hI₁
        exact ⟨e₂, a₂, w₂, hq₂, .of_steps (Steps.trans harr (.one step_inLoop)) harr₂⟩
      | exit id => exact ⟨_, a₁, w₁, hq, .pass (x := .inLoop c) rfl (fun _ _ => .inl (by simp)) harr⟩
      | goto l => exact ⟨_, a₁, w₁, hq, .pass (x := .inLoop c) rfl (fun _ _ => .inl (by simp)) harr⟩
      | ret => exact ⟨_, a₁, w₁, hq, .pass (x := .inLoop c) rfl (fun _ _ => .inl (by simp)) harr⟩
      | panic ch => exact ⟨_, a₁, w₁, hq, .pass (x := .inLoop c) rfl (fun _ _ => .inl (by simp)) harr⟩
      | outgrown => exact ⟨_, a₁, w₁, hq, .pass (x := .inLoop c) rfl (fun _ _ => .inl (by simp)) harr⟩
  obtain ⟨e, a', w', hq, harr⟩ := key n a w h0
  exact ⟨e, a', w', hq, .of_steps (.one step_loop) harr⟩
theorem Sim.ep {σ : St} {a : Act} {w : World} {c : Cfg} (h : Sim N fp w0 K0 σ a w c) (n : Nat) : Sim N fp w0 K0 { σ with ep := n } a w c :=
  ⟨h.hs.congr rfl rfl, h.env, h.fr, h.nodef, h.size⟩
theorem Sim.drew {σ : St} {a : Act} {w : World} {c : Cfg} (h : Sim N fp w0 K0 σ a w c) : Sim N fp w0 K0 σ a { w with drawn := w.drawn + 1 } c :=
  ⟨⟨h.hs.kin, h.hs.box, h.hs.mlt, h.hs.mblk, h.hs.minj, h.hs.own, h.hs.odis, h.hs.gk⟩, h.env, ⟨h.fr.os, h.fr.tape, h.fr.output, h.fr.size, h.fr.blk, h.fr.kn, h.fr.kle, h.fr.mB, h.fr.oB, h.fr.le0, h.fr.old⟩, h.nodef, h.size⟩
theorem Fresh.next {ep : Nat} {c : Cfg} (h : Fresh (fun _ => True) ep c) : Fresh (fun _ => False) (ep + 1) c := by
  refine ⟨fun k b hk => .inl ?_, fun k x hk => .inl ?_⟩
  · rcases h.1 k b hk with h1 | h1 <;> omega
  · rcases h.2 k x hk with h1 | h1 <;> omega
def post (N : Nat) (fp : Nat → Prop) (w0 : World) (K0 : Cfg) (Q : Exit → LSt → Prop) (e : Exit) (a : Act) (w : World) : Prop := ∃ s c, Q e s ∧ SimL N fp w0 K0 s a w c
theorem AWp_sound (hT : ∀ t i, T t = some i → i.Good P t) (hm : P.follows .mixedOrders = true) : ∀ (c : Code) (Q : Exit → LSt → Prop) (s : LSt), AWp P T N c Q s →
    ∀ (a : Act) (w : World) (cf : Cfg), SimL N fp w0 K0 s a w cf → c.wp P (post N fp w0 K0 Q) a w := by
  intro c
  induction c with
  | skip => intro Q s h a w cf hs; exact wp_skip ⟨s, cf, h, hs⟩
  | label l => intro Q s h a w cf hs; exact wp_label ⟨s, cf, h, hs⟩
  | exit id => intro Q s h a w cf hs; exact wp_exit ⟨s, cf, h, hs⟩
  | ret => intro Q s h a w cf hs; exact wp_ret ⟨s, cf, h, hs⟩
  | seq x y ihx ihy =>
    intro Q s h a w cf hs
    refine wp_seq (wp_mono (ihx _ s h a w cf hs) ?_)
    rintro e a' w' ⟨s', c', hq, hs'⟩
    cases e with
    | normal => exact ihy Q s' hq a' w' c' hs'
    | _ => exact ⟨s', c', hq, hs'⟩
  | block id body ih =>
    intro Q s h a w cf hs
    refine wp_block (wp_mono (ih _ s h a w cf hs) ?_)
    rintro e a' w' ⟨s', c', hq, hs'⟩
    cases e with
    | exit id' =>
      unfold blockQ at hq
      unfold Exit.inBlock
      simp only at hq ⊢
      split at hq
      · rename_i q; rw [if_pos q]; exact ⟨s', c', hq, hs'⟩
      · rename_i q; rw [if_neg q]; exact ⟨s', c', hq, hs'⟩
    | _ => exact ⟨s', c', hq, hs'⟩
  | cond x y z ihy ihz =>
    intro Q s h a w cf hs
    unfold AWp at h
    split at h
    · rename_i b hb
      have := evalO_sound hs.1.env hb
      have hv : a.eval x = .bool b := by
        generalize a.eval x = u at this ⊢
        cases this with | dat _ _ h => cases h; rfl
      exact wp_cond_split hv (fun q => ihy Q s (h.1 q) a w cf hs) (fun q => ihz Q s (h.2 q) a w cf hs)
    · exact h.elim
  | loop body ih =>
    intro Q s h a w cf hs
    obtain ⟨I, n, s0, hle, h0, hr⟩ := h
    refine wp_loopN (fun n a w => ∃ s c, I n s ∧ SimL N fp w0 K0 s a w c) (fun n a w hI => ?_) n a w ⟨s0, cf, h0, hs.weak hle⟩
    obtain ⟨s1, c1, h1, hs1⟩ := hI
    refine wp_mono (ih _ s1 (hr n s1 h1) a w c1 hs1) ?_
    rintro e a' w' ⟨s', c', hq, hs'⟩
    cases e with
    | normal =>
      obtain ⟨m, s2, hlt, hle2, hI2⟩ := hq
      exact ⟨m, hlt, s2, c', hI2, hs'.weak hle2⟩
    | _ => exact ⟨s', c', hq, hs'⟩
  | region id ops draw =>
    intro Q s h a w cf hs
    obtain ⟨hd, s0, hup, hrun⟩ := h
    obtain ⟨cf', hs⟩ := hup _ _ _ _ _ _ _ hs
    clear hup
    generalize hcf : cf' = cf at hs
    clear hcf
    generalize hs0 : s0 = s at hs hrun
    clear hs0
    have hrun' := RunL_RunK _ _ _ hrun
    have hs1 : Sim N fp w0 K0 ({ s with ep := s.ep + 1 } : LSt).den a w cf := hs.1.ep (s.ep + 1)
    have hf1 := hs.2.next
    cases draw with
    | false =>
      refine wp_region ?_
      rw [List.range_eq_range']
      have := region_lex (Q := post N fp w0 K0 Q) hT ops.toList 0 (fun _ => False) _ a w cf _ (fun j => by simp) hd (fun _ _ _ _ h => h) hs1 hf1 (Nat.succ_pos _) hrun' ?_
      · simpa using this
      · rintro σ' a' w' c' es ⟨s', rfl, _, hq⟩ hep hs' hf'
        exact ⟨s', c', hq, hs', by rw [show s'.ep = s.ep + 1 from hep]; exact hf'⟩
    | true =>
      refine wp_region_any hm ?_
      have hs2 := hs1.drew
      obtain ⟨tr, h1, h2, s', h3, h4, h5⟩ := run_trace hT ops.toList 0 (fun _ => False) _ a _ cf _ (fun j => by simp) hd (fun _ _ _ _ h => h) hs2 hf1 (Nat.succ_pos _) hrun'
      have htr : Trace P T ops ({ s with ep := s.ep + 1 } : LSt).den tr := ⟨by simpa using h1, fun j o ho => h2 j o (by simpa using ho), h4 rfl⟩
      have hrep : ∀ n, (Array.replicate ops.size false).getD n false = false := by
        intro n
        simp only [Array.getD_eq_getD_getElem?]
        by_cases q : n < ops.size
        · simp [q]
        · simp [Array.getElem?_eq_none, q]
      have hst0 : stS tr (fun n => (Array.replicate ops.size false).getD n false) ({ s with ep := s.ep + 1 } : LSt).den = ({ s with ep := s.ep + 1 } : LSt).den := by
        have : ∀ (tr : List (Option Nat × Eff)) (σ : St), stS tr (fun _ => false) σ = σ := by
          intro tr
          induction tr with
          | nil => intro σ; rfl
          | cons p r ih => intro σ; obtain ⟨d, e⟩ := p; rw [stS]; exact ih σ
        rw [show (fun n => (Array.replicate ops.size false).getD n false) = (fun _ => false) from funext hrep]
        exact this _ _
      refine region_any (Q := post N fp w0 K0 Q) hT htr hd (Nat.succ_pos _) (fun a' w' c' hs' hf' => ?_) ops.size _ a _ cf (by simp) (by simp [List.countP_replicate]) (fun j o _ hS => by simp only [hrep] at hS; cases hS) (by rw [hst0]; exact hs2) ?_
      · rw [h3] at hs'
        have hep : s'.ep = s.ep + 1 := by
          have := congrArg St.ep h3
          rw [stS_ep] at this
          exact this.symm
        exact ⟨s', c', h5, hs', by rw [hep]; exact hf'⟩
      · exact ⟨fun k b hk => (hf1.1 k b hk).imp (fun h => h) fun h => h.2.elim, fun k b hk => (hf1.2 k b hk).imp (fun h => h) fun h => h.2.elim⟩
  | rangeFunc => intro Q s h; exact h.elim
  | scope body ih =>
    intro Q s h a w cf hs
    refine wp_scope_straight (wp_mono (ih _ s h a w cf hs) ?_)
    rintro e a' w' ⟨s', c', hq, hs'⟩
    cases e with
    | goto l => exact hq.elim
    | _ => exact ⟨s', c', hq, hs'⟩
  | goto => intro Q s h; exact h.elim
  | refuse => intro Q s h; exact h.elim
/-! ### Functions -/
def initE : Nat → List DV → List (Nat × PV)
  | _, [] => []
  | k, d :: r => (k, .dat d) :: initE (k + 1) r
def initL (args : List DV) : LSt := { env := initE 0 args, mem := [], live := [], ep := 0 }
theorem lookE_init : ∀ (args : List DV) (k t : Nat) (v : PV), lookE (initE k args) t = some v → ∃ d, k ≤ t ∧ args[t - k]? = some d ∧ v = .dat d
  | [], _, _, _, h => by simp [initE, lookE] at h
  | d :: r, k, t, v, h => by
    simp only [initE, lookE] at h
    split at h
    · rename_i q
      subst q
      exact ⟨d, Nat.le_refl _, by simp, (Option.some.inj h).symm⟩
    · rename_i q
      obtain ⟨d', h1, h2, h3⟩ := lookE_init r (k + 1) t v h
      refine ⟨d', by omega, ?_, h3⟩
      rw [show t - k = (t - (k + 1)) + 1 by omega, List.getElem?_cons_succ]
      exact h2
def resV (m : Bool) (T : Tab) (s : LSt) : ResultVar → Option PV
  | .tmp t => lookE s.env t
  | .cell t ty =>
    match lookE s.env t, T ty with
    | some (.ptr k 0), some i => match lookM s.mem k with
      | some cs => if i.isAgg then (if i.size = cs.length then some (collect m cs) else none) else (match cs with | v :: _ => some v | [] => none)
      | none => none
    | _, _ => none
def resD (T : Tab) (s : LSt) (r : ResultVar) : Option DV := (resV false T s r).bind asD
def resDs (T : Tab) (s : LSt) : List ResultVar → Option (List DV)
  | [] => some []
  | r :: l => match resD T s r, resDs T s l with | some d, some ds => some (normD d :: ds) | _, _ => none
def resF (T : Tab) (s : LSt) (l : List ResultVar) : Option DV :=
  match resDs T s l with
  | some [d] => some d
  | some ds => some (.tup ds)
  | none => none
def resVs (T : Tab) (s : LSt) : List ResultVar → Option (List PV)
  | [] => some []
  | r :: l => match resV true T s r, resVs T s l with | some d, some ds => some (d :: ds) | _, _ => none
def resP (T : Tab) (s : LSt) (l : List ResultVar) : Option PV :=
  match resVs T s l with
  | some [d] => some d
  | some ds => some (.tup ds)
  | none => none
def resS (tmps : Array Value) : ResultVar → Sem Value
  | .tmp t => pure (tmps.getD t undef)
  | .cell t ty => do loadVar ty (← asAddr (tmps.getD t undef))
theorem results_resS (fn : Func) (tmps : Array Value) : results fn tmps = (do let vs ← fn.results.mapM (resS tmps); pure (if h : vs.size = 1 then vs[0] else .tuple vs)) := by
  unfold results
  congr 1
theorem resV_sound {m : Bool} (hT : ∀ t i, T t = some i → i.Good P t) {s : LSt} {a : Act} {w : World} {c : Cfg} (h : SimL N fp w0 K0 s a w c) {r : ResultVar} {d : PV} (hd : resV m T s r = some d) :
    ∃ v, (resS a.tmps r).run P w = .ok v w ∧ RepP c d v := by
  unfold resS
  cases r with
  | tmp t =>
    obtain ⟨x, h1, h2⟩ := h.1.env t d hd
    exact ⟨x, by simp [h1], h2⟩
  | cell t ty =>
    simp only [resV] at hd
    split at hd
    · rename_i k i hv hi
      split at hd
      · rename_i cs hk
        obtain ⟨x, h1, h2⟩ := h.1.env t _ hv
        obtain ⟨b, g1, hx⟩ : ∃ b, c.M k = some b ∧ a.tmps.getD t undef = .pointer (some ⟨b, 0, none⟩) := by
          rw [getD_of_some h1]
          cases h2 with
          | ptr _ _ b' hm => exact ⟨b', hm, rfl⟩
        obtain ⟨ety, arr, g2, g3, g4⟩ := (h.1.hs.box k cs hk).block g1
        have hg := hT ty i hi
        split at hd
        · rename_i ha
          split at hd
          · rename_i hl
            obtain rfl := Option.some.inj hd
            have hrun : (loadVar ty ⟨b, 0, none⟩).run P w = .ok (.agg (arr.toList.take cs.length).toArray) w := by
              refine run_loadVar_aggL w ty _ _ (by rw [hg.runAgg, ha]) (by rw [hg.runSize]; simp [hl]; omega) (fun j v hj => ?_)
              rw [addr_add, cell_of_row w b (0 + j) arr ety (0, 0) g2, Nat.zero_add]
              simp only [List.getElem?_take] at hj
              split at hj
              · simpa using hj
              · cases hj
            refine ⟨.agg (arr.toList.take cs.length).toArray, by simp [hx, asAddr, hrun], ?_⟩
            refine collect_sound (by simp; omega) (fun j p hp => ?_)
            obtain ⟨y, g5, g6, g7⟩ := g4 j p hp
            have hj : j < cs.length := (List.getElem?_eq_some_iff.1 hp).1
            have : ((arr.toList.take cs.length).toArray).getD j undef = y := by
              apply getD_of_some
              simp [List.getElem?_take, hj]
              exact g5
            rw [this]
            exact ⟨g6, g7⟩
          · cases hd
        · rename_i ha
          split at hd
          · rename_i v r
            obtain rfl := Option.some.inj hd
            obtain ⟨y, g5, g6, g7⟩ := g4 0 v rfl
            have hrun : (loadVar ty ⟨b, 0, none⟩).run P w = .ok y w :=
              run_loadVar_oneL w ty _ y (by rw [hg.runAgg]; simpa using ha) (by rw [cell_of_row w b 0 arr ety (0, 0) g2]; exact g5)
            exact ⟨y, by simp [hx, asAddr, hrun], g7⟩
          · cases hd
      · cases hd
    · cases hd
theorem resD_sound (hT : ∀ t i, T t = some i → i.Good P t) {s : LSt} {a : Act} {w : World} {c : Cfg} (h : SimL N fp w0 K0 s a w c) {r : ResultVar} {d : DV} (hd : resD T s r = some d) :
    ∃ v, (resS a.tmps r).run P w = .ok v w ∧ RepD c.K d v := by
  simp only [resD, Option.bind_eq_some_iff] at hd
  obtain ⟨u, h1, h2⟩ := hd
  obtain ⟨v, h3, h4⟩ := resV_sound hT h h1
  exact ⟨v, h3, asD_sound h4 h2⟩
theorem resP_sound (hT : ∀ t i, T t = some i → i.Good P t) {s : LSt} {a : Act} {w : World} {c : Cfg} (h : SimL N fp w0 K0 s a w c) {fn : Func} {d : PV} (hd : resP T s fn.results.toList = some d) :
    ∃ v, (results fn a.tmps).run P w = .ok v w ∧ RepP c d v := by
  have key : ∀ (l : List ResultVar) (ds : List PV), resVs T s l = some ds → ∃ vs : List Value,
      (l.mapM (resS a.tmps)).run P w = .ok vs w ∧ vs.length = ds.length ∧ ∀ (j : Nat) (d : PV), ds[j]? = some d → ∃ v, vs[j]? = some v ∧ RepP c d v := by
    intro l
    induction l with
    | nil => intro ds hd; simp [resVs] at hd; subst hd; exact ⟨[], rfl, rfl, fun j d hj => by simp at hj⟩
    | cons r l ih =>
      intro ds hd
      simp only [resVs] at hd
      split at hd <;> simp at hd
      rename_i d ds' h1 h2
      subst hd
      obtain ⟨v, g1, g2⟩ := resV_sound hT h h1
      obtain ⟨vs, g3, g4, g5⟩ := ih ds' h2
      refine ⟨v :: vs, ?_, by simp [g4], fun j d' hj => ?_⟩
      · rw [List.mapM_cons]
        simp only [Sem.run_bind]
        rw [g1]
        simp only [Result.andThen_ok]
        rw [g3]
        rfl
      · cases j with
        | zero => simp at hj; subst hj; exact ⟨v, rfl, g2⟩
        | succ j => simpa using g5 j d' (by simpa using hj)
  have main : ∀ ds, resVs T s fn.results.toList = some ds → (∃ vs : List Value, (results fn a.tmps).run P w = .ok (if h : vs.toArray.size = 1 then vs.toArray[0] else .tuple vs.toArray) w ∧ vs.length = ds.length ∧ ∀ (j : Nat) (d : PV), ds[j]? = some d → ∃ v, vs[j]? = some v ∧ RepP c d v) := by
    intro ds hds
    obtain ⟨vs, h1, h2, h3⟩ := key _ _ hds
    refine ⟨vs, ?_, h2, h3⟩
    rw [results_resS, Sem.run_bind, Array.mapM_eq_mapM_toList, Sem.run_map, h1]
    rfl
  unfold resP at hd
  split at hd
  · rename_i d' hds
    simp at hd
    subst hd
    obtain ⟨vs, h1, h2, h3⟩ := main _ hds
    obtain ⟨v, g1, g2⟩ := h3 0 d' rfl
    cases vs with
    | nil => simp at g1
    | cons v' r =>
      simp at g1
      subst g1
      cases r with
      | nil => exact ⟨v', by simpa using h1, g2⟩
      | cons _ _ => simp at h2
  · rename_i ds hne hds
    simp at hd
    subst hd
    obtain ⟨vs, h1, h2, h3⟩ := main _ hds
    have hsz : ¬ vs.toArray.size = 1 := by
      intro q
      simp [h2] at q
      cases ds with
      | nil => simp at q
      | cons x r => cases r with | nil => exact hne x rfl | cons _ _ => simp at q
    rw [dif_neg hsz] at h1
    refine ⟨_, h1, .tup _ _ (by simpa using h2) (fun j d hj => ?_)⟩
    obtain ⟨v, g1, g2⟩ := h3 j d hj
    rw [getD_of_some (by simpa using g1)]
    exact g2
  · cases hd
theorem resF_sound (hT : ∀ t i, T t = some i → i.Good P t) {s : LSt} {a : Act} {w : World} {c : Cfg} (h : SimL N fp w0 K0 s a w c) {fn : Func} {d : DV} (hd : resF T s fn.results.toList = some d) :
    ∃ v, (results fn a.tmps).run P w = .ok v w ∧ RepD c.K d v := by
  have key : ∀ (l : List ResultVar) (ds : List DV), resDs T s l = some ds → ∃ vs : List Value,
      (l.mapM (resS a.tmps)).run P w = .ok vs w ∧ vs.length = ds.length ∧ ∀ (j : Nat) (d : DV), ds[j]? = some d → ∃ v, vs[j]? = some v ∧ RepD c.K d v := by
    intro l
    induction l with
    | nil => intro ds hd; simp [resDs] at hd; subst hd; exact ⟨[], rfl, rfl, fun j d hj => by simp at hj⟩
    | cons r l ih =>
      intro ds hd
      simp only [resDs] at hd
      split at hd <;> simp at hd
      rename_i d ds' h1 h2
      subst hd
      obtain ⟨v, g1, g2⟩ := resD_sound hT h h1
      obtain ⟨vs, g3, g4, g5⟩ := ih ds' h2
      refine ⟨v :: vs, ?_, by simp [g4], fun j d' hj => ?_⟩
      · rw [List.mapM_cons]
        simp only [Sem.run_bind]
        rw [g1]
        simp only [Result.andThen_ok]
        rw [g3]
        rfl
      · cases j with
        | zero => simp at hj; subst hj; exact ⟨v, rfl, normD_sound g2⟩
        | succ j => simpa using g5 j d' (by simpa using hj)
  have main : ∀ ds, resDs T s fn.results.toList = some ds → (∃ vs : List Value, (results fn a.tmps).run P w = .ok (if h : vs.toArray.size = 1 then vs.toArray[0] else .tuple vs.toArray) w ∧ vs.length = ds.length ∧ ∀ (j : Nat) (d : DV), ds[j]? = some d → ∃ v, vs[j]? = some v ∧ RepD c.K d v) := by
    intro ds hds
    obtain ⟨vs, h1, h2, h3⟩ := key _ _ hds
    refine ⟨vs, ?_, h2, h3⟩
    rw [results_resS, Sem.run_bind, Array.mapM_eq_mapM_toList, Sem.run_map, h1]
    rfl
  unfold resF at hd
  split at hd
  · rename_i d' hds
    simp at hd
    subst hd
    obtain ⟨vs, h1, h2, h3⟩ := main _ hds
    obtain ⟨v, g1, g2⟩ := h3 0 d' rfl
    cases vs with
    | nil => simp at g1
    | cons v' r =>
      simp at g1
      subst g1
      cases r with
      | nil => exact ⟨v', by simpa using h1, g2⟩
      | cons _ _ => simp at h2
  · rename_i ds hne hds
    simp at hd
    subst hd
    obtain ⟨vs, h1, h2, h3⟩ := main _ hds
    have hsz : ¬ vs.toArray.size = 1 := by
      intro q
      simp [h2] at q
      cases ds with
      | nil => simp at q
      | cons x r => cases r with | nil => exact hne x rfl | cons _ _ => simp at q
    rw [dif_neg hsz] at h1
    refine ⟨_, h1, .tup _ _ (by simpa using h2) (fun j d hj => ?_)⟩
    obtain ⟨v, g1, g2⟩ := h3 j d hj
    rw [getD_of_some (by simpa using g1)]
    exact g2
  · cases hd
def fnQ (T : Tab) (fn : Func) (R : DV → Prop) : Exit → LSt → Prop
  | .normal, s => ∃ d, resF T s fn.results.toList = some d ∧ R d
  | .ret, s => ∃ d, resF T s fn.results.toList = some d ∧ R d
  | _, _ => False
theorem CallsD_of (hT : ∀ t i, T t = some i → i.Good P t) (hm : P.follows .mixedOrders = true) {g : FuncId} {fn : Func} {code : Code} {args : List DV} {r : DV} (hf : P.funcs[g]? = some fn) (hb : fn.body = some code) (he : EnterOk P g)
    (hn : args.length ≤ fn.ntmps) (h : AWp P T fn.ntmps code (fnQ T fn (fun d => d = r)) (initL args)) : CallsD P g args r := by
  refine ⟨he, fun K w xs hG hK hx => calls_of_wp hf hb ?_⟩
  have hsim : SimL fn.ntmps (fun _ => False) w { K := K, M := fun _ => none, O := fun _ => none } (initL args) { tmps := xs ++ Array.replicate (fn.ntmps - xs.size) undef, defers := [] } w { K := K, M := fun _ => none, O := fun _ => none } := by
    refine ⟨⟨⟨hK, fun k cs hk => by simp [LSt.den, initL, lookM] at hk, fun k b hk => by simp at hk, fun k cs b hk => by simp [LSt.den, initL, lookM] at hk, fun k k' cs cs' b hk => by simp [LSt.den, initL, lookM] at hk, fun τ ht => by simp [LSt.den, initL, lookB] at ht, fun τ τ' x x' g a => by simp [LSt.den, initL, lookB] at a, hG⟩, fun t v hv => ?_,
      ⟨rfl, rfl, rfl, Nat.le_refl _, fun _ _ _ => rfl, fun _ _ _ _ => rfl, fun _ _ _ h => h, fun k b hk => by simp at hk, fun τ x hx => by simp at hx, Cfg.le.refl _, fun _ _ => ⟨rfl, rfl⟩⟩, rfl, ?_⟩, fun k b hk => by simp at hk, fun k x hk => by simp at hk⟩
    · obtain ⟨d, h1, h2, h3⟩ := lookE_init args 0 t v hv
      subst h3
      rw [Nat.sub_zero] at h2
      have hlt : t < xs.size := by rw [hx.1]; exact (List.getElem?_eq_some_iff.1 h2).1
      exact ⟨xs.getD t undef, by simp [Array.getElem?_append_left hlt, hlt], .dat _ _ (hx.2 t d h2)⟩
    · simp [hx.1]; omega
  refine wp_mono (AWp_sound hT hm code _ _ h _ w _ hsim) ?_
  rintro e a w' ⟨s, c, hq, hs⟩
  have fin : (∃ d, resF T s fn.results.toList = some d ∧ d = r) → a.defers = [] ∧ ∃ v, (results fn a.tmps).run P w' = .ok v w' ∧
      (∃ v' K', Ending.returned v = .returned v' ∧ RepD K' r v' ∧ (∀ b o v, K b o = some v → K' b o = some v) ∧ (∀ b o, b < w.heap.size → K' b o = K b o) ∧ (∀ b o v, K' b o = some v → w'.cell? ⟨b, o, none⟩ = some v) ∧ Below w.heap.size w w') := by
    rintro ⟨d, hd, rfl⟩
    obtain ⟨v, h1, h2⟩ := resF_sound hT hs hd
    have hfr := hs.1.fr
    exact ⟨hs.1.nodef, v, h1, v, c.K, rfl, h2, hfr.kle, fun b o hb => hfr.kn b o hb (fun q => q), hs.1.hs.kin, ⟨hfr.os, hfr.tape, hfr.output, hfr.size, fun k hk => hfr.blk k hk (fun q => q)⟩⟩
  cases e with
  | normal => exact fin hq
  | ret => exact fin hq
  | _ => exact hq.elim
theorem CallK.pure {g : FuncId} {ds : List DV} {r : DV} {args : List PV} {σ : St} {d : Nat} {K : Eff → Prop} (h : CallsD P g ds r) (ha : args.length = ds.length) (hd : ∀ (j : Nat) (v : PV) (x : DV), args[j]? = some v → ds[j]? = some x → ∀ c y, RepP c v y → RepD c.K x y)
    (hk : K { val := .dat r }) : CallK P g args σ (some d) K := by
  refine ⟨d, [], { val := .dat r }, rfl, by simp, by simp, ⟨h.1, rfl, ?_⟩, hk⟩
  intro σ w c xs hep _ _ hs _ hx
  have hxs : RepDs c.K ds xs := by
    refine ⟨by rw [hx.1, ha], fun j x hj => ?_⟩
    have hlt : j < args.length := by rw [ha]; exact (List.getElem?_eq_some_iff.1 hj).1
    have hv : args[j]? = some args[j] := by simp [hlt]
    exact hd j _ x hv hj c _ (hx.2 j _ hv)
  refine (h.2 c.K w xs hs.gk hs.kin hxs).mono ?_
  rintro en w' ⟨v, K', rfl, h1, h2, h3, h4, h5⟩
  refine ⟨v, { c with K := K' }, rfl, .dat _ _ h1, ?_⟩
  have hle : c.le { c with K := K' } := ⟨h2, fun _ _ q => q, fun _ _ q => q⟩
  refine ⟨hle, h5.os, h5.tape, h5.output, h5.size, fun b hb _ => h5.block b hb, fun b o hb _ => h3 b o hb, fun _ _ q => .inl q, fun _ _ q => .inl q, ?_⟩
  have hmem : (Eff.app (some d) { val := .dat r } σ).mem = σ.mem := by simp [Eff.app, wrMem, rmMem, Eff.alKeys]
  have hlive : (Eff.app (some d) { val := .dat r } σ).live = σ.live := by simp [Eff.app, setLive, Eff.nwKeys]
  refine HS.congr (σ := σ) ⟨h4, fun k cs hk => (hs.box k cs hk).kept hle rfl rfl (fun b hb => h5.block b (hs.mlt k b hb)), fun k b hk => Nat.lt_of_lt_of_le (hs.mlt k b hk) h5.size, fun k cs b hk hb o => ?_, hs.minj, fun τ ht => ?_, hs.odis, GK_mono hs.gk h2⟩ hmem hlive
  · show K' b o = none
    rw [h3 b o (hs.mlt k b hb)]
    exact hs.mblk k cs b hk hb o
  · obtain ⟨x, e, sz, n, ys, g1, g2, g3⟩ := hs.own τ ht
    refine ⟨x, e, sz, n, ys, g1, ownsRow_keptB g2 (fun g hg => h5.block g (g2.lt g hg).2), fun g hg => ⟨fun o v hk => ?_, (g3 g hg).2⟩⟩
    have hlt := (g2.lt g hg).2
    rw [show ({ c with K := K' } : Cfg).K g o = c.K g o from h3 g o hlt] at hk
    exact (g3 g hg).1 o v hk
end
end Go.Proofs.YtbeafnkcimfeeaaGreatDoor.AM
