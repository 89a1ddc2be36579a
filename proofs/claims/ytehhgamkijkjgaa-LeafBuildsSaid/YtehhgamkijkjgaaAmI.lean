/- The abstract machine (9): struct and row literals, append; then every operation in one theorem. -/
import Derived.Test.YtehhgamkijkjgaaAmH
namespace Go.Proofs.Ytehhgamkijkjgaa.AM
open Go.RowKit
set_option linter.unusedVariables false
set_option linter.unusedSimpArgs false
set_option linter.unusedSectionVars false

/-- Cells laid over an array from a place on. -/
theorem foldl_set (off : Nat) : ∀ (vs : List Value) (k : Nat) (cells : Array Value), off + k + vs.length ≤ cells.size →
    ((vs.zipIdx k).foldl (fun cs (p : Value × Nat) => cs.setIfInBounds (off + p.2) p.1) cells).size = cells.size ∧
    ∀ q, ((vs.zipIdx k).foldl (fun cs (p : Value × Nat) => cs.setIfInBounds (off + p.2) p.1) cells)[q]? = if off + k ≤ q ∧ q < off + k + vs.length then vs[q - (off + k)]? else cells[q]?
  | [], k, cells, h => by
    refine ⟨rfl, fun q => ?_⟩
    rw [if_neg (by simp)]
    rfl
  | v :: r, k, cells, h => by
    simp only [List.length_cons] at h
    simp only [List.zipIdx_cons, List.foldl_cons]
    obtain ⟨h1, h2⟩ := foldl_set off r (k + 1) (cells.setIfInBounds (off + k) v) (by simp; omega)
    refine ⟨by rw [h1]; simp, fun q => ?_⟩
    rw [h2 q]
    by_cases hq : q = off + k
    · subst hq
      rw [if_neg (by omega), if_pos (by simp)]
      simp [show off + k < cells.size by omega]
    · by_cases hq2 : off + k ≤ q ∧ q < off + k + (r.length + 1)
      · rw [if_pos (by omega), if_pos (by simpa using hq2)]
        rw [show q - (off + k) = (q - (off + (k + 1))) + 1 by omega, List.getElem?_cons_succ]
      · rw [if_neg (by omega), if_neg (by simpa using hq2)]
        rw [Array.getElem?_setIfInBounds_ne (fun e => hq e.symm)]

theorem fill_cons {place : Nat → Option (Nat × Nat)} {cells : Array Value} {i off size : Nat} {v : Value} {rest : List (Nat × Value)} (hp : place i = some (off, size)) (hs : v.cells.size = size) (hb : off + size ≤ cells.size) :
    Instr.fill place cells ((i, v) :: rest) = Instr.fill place (v.cells.toList.zipIdx.foldl (fun cs (p : Value × Nat) => cs.setIfInBounds (off + p.2) p.1) cells) rest := by
  simp only [Instr.fill, hp]
  rw [if_neg (by simp [hs]; omega)]
  congr 1
  rw [← Array.foldl_toList, Array.toList_zipIdx]

section
variable {P : Program} {T : Tab} {o : Oper} {σ : St} {a : Act} {w : World} {c : Cfg} {e : Eff} {K : Act → World → Prop} {Q : Exit → Act → World → Prop}

theorem fill_layP (he : EnvOk σ a c) {fs : List (Nat × Nat × Bool)} {place : Nat → Option (Nat × Nat)} (hp : ∀ (k off sz : Nat) (ag : Bool), fs[k]? = some (off, sz, ag) → place k = some (off, sz)) :
    ∀ (parts : List (Nat × Operand)) (cs cs' : List PV) (cells : Array Value), layP fs σ parts cs = some cs' → cells.size = cs.length →
      (∀ (j : Nat) (p : PV), cs[j]? = some p → (cells.getD j undef).oneCell' = true ∧ RepP c p (cells.getD j undef)) →
      ∃ cells', Instr.fill place cells (parts.map fun p => (p.1, a.eval p.2)) = some cells' ∧ cells'.size = cs'.length ∧
        ∀ (j : Nat) (p : PV), cs'[j]? = some p → (cells'.getD j undef).oneCell' = true ∧ RepP c p (cells'.getD j undef)
  | [], cs, cs', cells, h, hl, hr => by
    simp [layP] at h
    subst h
    exact ⟨cells, rfl, hl, hr⟩
  | (k, x) :: rest, cs, cs', cells, h, hl, hr => by
    simp only [layP] at h
    split at h
    · rename_i off sz ag v hf hv
      split at h
      · rename_i new hc
        split at h
        · rename_i hb
          obtain ⟨h1, h2, h3⟩ := cellsT_sound (evalO_sound he hv) hc
          simp only at h1 h2
          obtain ⟨h4, h5⟩ := foldl_set off (a.eval x).cells.toList 0 cells (by simp [h1]; omega)
          have hnew : ∀ (j : Nat) (p : PV), (setR cs off new)[j]? = some p → (((a.eval x).cells.toList.zipIdx.foldl (fun cs (p : Value × Nat) => cs.setIfInBounds (off + p.2) p.1) cells).getD j undef).oneCell' = true ∧
              RepP c p (((a.eval x).cells.toList.zipIdx.foldl (fun cs (p : Value × Nat) => cs.setIfInBounds (off + p.2) p.1) cells).getD j undef) := by
            intro j p hj
            rw [getElem?_setR _ _ _ _ hb] at hj
            have h5' := h5 j
            simp only [Nat.add_zero, Array.length_toList, h1] at h5'
            rw [h2] at hj
            split at hj
            · rename_i hc2
              rw [if_pos hc2] at h5'
              obtain ⟨y, g1, g2, g3⟩ := h3 _ _ hj
              rw [Array.getElem?_toList, g1] at h5'
              rw [getD_of_some h5']
              exact ⟨g2, g3⟩
            · rename_i hc2
              rw [if_neg hc2] at h5'
              have hlt : j < cells.size := by rw [hl]; exact (List.getElem?_eq_some_iff.1 hj).1
              rw [some_of_lt undef hlt] at h5'
              rw [getD_of_some h5']
              exact hr j p hj
          obtain ⟨cells', h6, h7, h8⟩ := fill_layP he hp rest (setR cs off new) cs' _ h (by rw [h4, hl]; simp [setR]; omega) hnew
          exact ⟨cells', by rw [List.map_cons, fill_cons (hp _ _ _ _ hf) h1 (by omega)]; exact h6, h7, h8⟩
        · simp at h
      · simp at h
    · simp at h

theorem run_mapM_places {fields : Array Field} {g : Field → Nat} (h : ∀ f ∈ fields.toList, (sizeOf f.type).run P w = .ok (g f) w) :
    (fields.mapM fun f => do pure (f.offset, ← sizeOf f.type) : Sem (Array (Nat × Nat))).run P w = .ok (fields.map fun f => (f.offset, g f)) w := by
  rw [Array.mapM_eq_mapM_toList, Sem.run_map]
  have : ∀ l : List Field, (∀ f ∈ l, (sizeOf f.type).run P w = .ok (g f) w) → (l.mapM fun f => do pure (f.offset, ← sizeOf f.type) : Sem (List (Nat × Nat))).run P w = .ok (l.map fun f => (f.offset, g f)) w := by
    intro l
    induction l with
    | nil => intro _; simp
    | cons f r ih =>
      intro hl
      rw [List.mapM_cons]
      simp only [Sem.run_bind, hl f (by simp), Result.andThen_ok, Sem.run_pure, ih (fun f hf => hl f (by simp [hf])), List.map_cons]
  rw [this fields.toList h]
  simp only [Result.andThen_ok]
  congr 1
  apply Array.ext'
  simp

variable (hs : HS σ w c) (he : EnvOk σ a c)
include hs he

theorem sound_build (hT : ∀ t i, T t = some i → i.Good P t) {t : TypeId} {i : TyI} {parts : Array (Nat × Operand)} {fs : List (Nat × Nat × Bool)} {cs : List PV} (ho : o.op = .build t parts) (hi : T t = some i) (hty : i.ty = .struct fs)
    (hc : layP fs σ parts.toList (i.zero.map .dat) = some cs) (hn : Next σ o a w c K { val := collect cs }) : o.wp P a w K Q := by
  obtain ⟨fields, h1, hl, h2⟩ := und_struct hT (show tyOf T t = .struct fs by simp [tyOf, hi, hty])
  obtain ⟨inf, z, g1, g2, g3, g4, g5, g6, g7, _⟩ := (hT t i hi).info
  obtain ⟨zc, rfl⟩ := g7 (by simp [TyI.isAgg, hty])
  let g : Field → Nat := fun f => ((P.info? f.type).map (·.size)).getD 0
  have hsz : ∀ f ∈ fields.toList, (sizeOf f.type).run P w = .ok (g f) w := by
    intro f hf
    obtain ⟨k, hk⟩ := List.mem_iff_getElem?.1 hf
    simp only [Array.getElem?_toList] at hk
    have hlt : k < fs.length := by rw [hl]; exact (Array.getElem?_eq_some_iff.1 hk).1
    obtain ⟨f', h3, _, _, ⟨inf', h4, _⟩, _⟩ := h2 k fs[k].1 fs[k].2.1 fs[k].2.2 (by simp [hlt])
    rw [hk] at h3; cases h3
    rw [run_sizeOf_info h4]; simp [g, h4]
  have hm := run_mapM_places (P := P) (w := w) hsz
  have hplace : ∀ (k off sz : Nat) (ag : Bool), fs[k]? = some (off, sz, ag) → (fun i => (fields.map fun f => (f.offset, g f))[i]?) k = some (off, sz) := by
    intro k off sz ag hk
    obtain ⟨f', h3, h4, _, ⟨inf', h5, h6⟩, _⟩ := h2 k off sz ag hk
    simp [h3, h4, g, h5, h6]
  obtain ⟨cells', h6, h7, h8⟩ := fill_layP he hplace parts.toList (i.zero.map .dat) cs zc hc (by simpa [Value.cells, g5] using g4) (fun j p hj => by
    simp only [List.getElem?_map, Option.map_eq_some_iff] at hj
    obtain ⟨d, hd, rfl⟩ := hj
    exact ⟨(g6 j d hd).1, .dat _ _ ((g6 j d hd).2 _)⟩)
  refine wp_value (rd := []) hs (x := .agg cells') ?_ (collect_sound h7 h8) hn
  have hparts : (parts.map fun (x : Nat × Operand) => (x.1, a.eval x.2)).toList = parts.toList.map fun p => (p.1, a.eval p.2) := by simp
  simp only [execOp, ho]
  apply run_v
  simp only [Instr.build, Sem.run_bind, zeroValue, typeInfo, run_program, Result.andThen_ok, g1, Sem.run_pure, g3, run_underlying h1, hm, Value.cells, hparts, h6]

theorem sound_buildSlice (hT : ∀ t i, T t = some i → i.Good P t) {t e : TypeId} {i : TyI} {n sz bytes : Nat} {parts : Array (Nat × Operand)} {es : List (List DV)} {d : Nat} (ho : o.op = .buildSlice t n parts) (hd : o.dst = some d) (ht : tyOf T t = .slice e sz bytes) (hi : T e = some i)
    (hsz : i.size = sz) (hpn : parts.size = n) (h24 : n * sz ≤ 2 ^ 24) (hes : rowsP i σ parts.toList 0 = some es) (hf : c.O (d, 0, σ.ep) = none) (hn : Next σ o a w c K { val := .acc (d, 0, σ.ep) sz es, nw := [0] }) : o.wp P a w K Q := by
  obtain ⟨h1, h2, ie, z, h3, h4, h5, h6, h7⟩ := und_slice hT ht
  have key : ∀ (parts : List (Nat × Operand)) (n0 : Nat) (es : List (List DV)) (cells : Array Value), rowsP i σ parts n0 = some es → (n0 + parts.length) * sz ≤ cells.size →
      ∃ cells', Instr.fill (fun i => some (i * sz, sz)) cells (parts.map fun p => (p.1, a.eval p.2)) = some cells' ∧ cells'.size = cells.size ∧ (∀ q, q < n0 * sz → cells'[q]? = cells[q]?) ∧ es.length = parts.length ∧ (∀ r ∈ es, r.length = sz) ∧
        ∀ (i : Nat) (r : List DV), es[i]? = some r → ∀ (j : Nat) (d : DV), r[j]? = some d → ∃ y, cells'[(n0 + i) * sz + j]? = some y ∧ y.oneCell' = true ∧ RepD c.K d y := by
    intro parts
    induction parts with
    | nil => intro n0 es cells h hb; simp [rowsP] at h; subst h; exact ⟨cells, rfl, rfl, fun _ _ => rfl, rfl, by simp, fun i r hr => by simp at hr⟩
    | cons p rest ih =>
      obtain ⟨k, x⟩ := p
      intro n0 es cells h hb
      simp only [rowsP] at h
      split at h
      · rename_i hk
        subst hk
        split at h
        · rename_i cs hcs
          split at h
          · rename_i ds l hds hl
            simp at h
            subst h
            simp only [Option.bind_eq_some_iff] at hcs
            obtain ⟨v, hv, hc⟩ := hcs
            obtain ⟨g1, g2, g3⟩ := cellsT_sound (evalO_sound he hv) hc
            obtain ⟨g4, g5⟩ := allD_sound hds
            rw [hsz] at g1 g2
            have hb2 : k * sz + sz ≤ cells.size := by
              have : k * sz + sz = (k + 1) * sz := (Nat.succ_mul k sz).symm
              refine Nat.le_trans ?_ hb
              rw [this]
              exact Nat.mul_le_mul_right _ (by simp)
            obtain ⟨h8, h9⟩ := foldl_set (k * sz) (a.eval x).cells.toList 0 cells (by simp [g1]; omega)
            obtain ⟨cells', q1, q2, q3, q4, q5, q6⟩ := ih (k + 1) l _ hl (by rw [h8]; simpa [Nat.add_assoc, Nat.add_comm 1] using hb)
            refine ⟨cells', ?_, q2.trans h8, fun q hq => ?_, by simp [q4], fun r hr => ?_, fun i r hr j dd hdd => ?_⟩
            · rw [List.map_cons, fill_cons rfl g1 hb2]; exact q1
            · rw [q3 q (by rw [Nat.succ_mul]; omega), h9 q, if_neg (by omega)]
            · simp only [List.mem_cons] at hr
              rcases hr with rfl | hr
              · simp [g4, g2]
              · exact q5 r hr
            · cases i with
              | zero =>
                simp only [List.getElem?_cons_zero, Option.some.injEq] at hr
                subst hr
                simp only [List.getElem?_map, Option.map_eq_some_iff] at hdd
                obtain ⟨d0, hd0, rfl⟩ := hdd
                obtain ⟨pv, hpv, had⟩ := g5 j d0 hd0
                obtain ⟨y, g6, g7, g8⟩ := g3 j pv hpv
                have hj : j < sz := by rw [← g2]; exact (List.getElem?_eq_some_iff.1 hpv).1
                refine ⟨y, ?_, g7, norm1_sound (asD_sound g8 had)⟩
                rw [Nat.add_zero, q3 _ (by rw [Nat.succ_mul]; omega), h9, if_pos (by simp [g1]; omega)]
                simp only [Nat.add_zero, Nat.add_sub_cancel_left]
                simpa using g6
              | succ i =>
                have := q6 i r (by simpa using hr) j dd hdd
                rw [show k + (i + 1) = k + 1 + i by omega]
                exact this
          · simp at h
        · simp at h
      · simp at h
  have hlen : parts.toList.length = n := by simpa using hpn
  obtain ⟨zc, hzc1, hzc2⟩ : ∃ zc : Array Value, (n * sz = 0 → zc = #[]) ∧ (n * sz ≠ 0 → zc = z.cells) := ⟨if n * sz = 0 then #[] else z.cells, fun h => if_pos h, fun h => if_neg h⟩
  obtain ⟨cells', q1, q2, q3, q4, q5, q6⟩ := key parts.toList 0 es ((Array.range (n * sz)).map (zc[· % zc.size]!)) hes (by simp [hpn])
  have hcs : cells'.size = n * sz := by rw [q2]; simp
  have hn63 : n ≤ maxLen := by
    have : n * 1 ≤ n * sz := Nat.mul_le_mul_left _ h2
    simp only [maxLen]; omega
  have hrun : (execOp a.eval o).run P w = .ok (.value (.slice (some ⟨w.heap.size, 0, none⟩) n n)) (w.alloc (.cells cells' e)) := by
    simp only [execOp, ho]
    apply run_v
    have hparts : (parts.map fun (x : Nat × Operand) => (x.1, a.eval x.2)).toList = parts.toList.map fun p => (p.1, a.eval p.2) := by simp
    have h24' : ¬ (n * sz > 2 ^ 24) := by omega
    simp only [Instr.buildSlice, Sem.run_bind, run_underlying h1, Result.andThen_ok, run_sizeOf_info h3, h4, h24', if_false, hparts]
    by_cases hz : n * sz = 0
    · rw [hzc1 hz] at q1
      rw [if_pos hz]
      simp only [Sem.run_bind, Sem.run_pure, Result.andThen_ok]
      rw [q1]
      simp [newRow]
    · rw [hzc2 hz] at q1
      rw [if_neg hz]
      simp only [Sem.run_bind, zeroValue, typeInfo, run_program, Result.andThen_ok, h3, h6, Sem.run_pure]
      rw [q1]
      simp [newRow]
  have hrow := stepF_row hs d (.acc (d, 0, σ.ep) sz es) [] e e sz 0 n (.slice none 0 0) (.slice (some ⟨w.heap.size, 0, none⟩) n n) [] cells'.toList hf (World.ownsRow_nil w 0 e sz)
    (World.ownsRow_lit w cells' n (Nat.zero_le _) hn63 hcs) ⟨_, rfl⟩ (.inr ⟨rfl, World.grownBy_alloc w _ none⟩) (fun g hg => by simp [Value.ownBlock] at hg)
  have hel : es.length = n := by rw [q4]; exact hlen
  refine wp_of_run hrun (hn _ _ _ ?_ (by rw [hd]; exact hrow.1))
  refine .acc _ _ _ _ e (upd_same _ _ _) ?_
  rw [← hel]
  have hget : ∀ (i : Nat) (r : List DV), es[i]? = some r → ∀ (j : Nat) (dd : DV), r[j]? = some dd → cells'.toList[i * sz + j]? = some (cells'.getD (i * sz + j) undef) ∧ (cells'.getD (i * sz + j) undef).oneCell' = true ∧ RepD c.K dd (cells'.getD (i * sz + j) undef) := by
    intro i r hr j dd hj
    obtain ⟨y, y1, y2, y3⟩ := q6 i r hr j dd hj
    rw [Nat.zero_add] at y1
    rw [getD_of_some y1]
    exact ⟨by simpa using y1, y2, y3⟩
  refine .lst _ _ _ _ _ (fun i j => cells'.getD (i * sz + j) undef) (Nat.le_refl _) (by rw [hel]; exact hn63) q5 (fun i r hr j dd hj => ?_) (fun i r hr j dd hj => (hget i r hr j dd hj).2.1) (fun i r hr j dd hj => ?_)
  · show rowK c.K (.slice (some ⟨w.heap.size, 0, none⟩) es.length es.length) cells'.toList w.heap.size (0 + i * sz + j) = _
    rw [rowK_some rfl, Nat.zero_add]
    unfold knowRow
    rw [if_pos rfl]
    exact (hget i r hr j dd hj).1
  · exact ((hget i r hr j dd hj).2.2).mono (by
      have := hrow.1.le.K
      rw [← hel] at this
      exact this)

/-- An append onto a row of one's own, or onto nil. -/
theorem sound_append (hT : ∀ t i, T t = some i → i.Good P t) {cl : Call} {t e : TypeId} {sz bytes : Nat} {x y : Operand} {vx vy : PV} {dy : DV} {sy : Nat} {xs ys : List (List DV)} {us : List Key} {d : Nat} (ho : o.op = .call cl) (hc : cl.callee = .builtin .append)
    (ha : cl.args = #[x, y]) (hat : cl.argTypes = #[t, t]) (hd : o.dst = some d) (ht : tyOf T t = .slice e sz bytes) (hx : evalO σ x = some vx) (hy : evalO σ y = some vy) (hdy : asD vy = some dy) (hry : rowD dy = some (sy, ys)) (hsy : sy = sz ∨ ys = [])
    (hvx : (∃ τ, vx = .acc τ sz xs ∧ σ.live τ = true ∧ us = [τ]) ∨ (∃ q, vx = .dat (.nil q) ∧ xs = [] ∧ us = [])) (hb : (xs.length + ys.length) * bytes ≤ 140737488355328) (hm : xs.length + ys.length ≤ maxLen) (hf : c.O (d, 0, σ.ep) = none)
    (hn : Next σ o a w c K { val := .acc (d, 0, σ.ep) sz (xs ++ ys), use := us, nw := [0] }) : o.wp P a w K Q := by
  obtain ⟨h1, h2, ie, z, h3, h4, h5, h6, h7⟩ := und_slice hT ht
  subst h4
  subst h5
  -- what is appended to
  obtain ⟨vv, e', n, xv, hvv, hown, hne, hrx, hng⟩ : ∃ (vv : Value) (e' : TypeId) (n : Nat) (xv : List Value), a.eval x = vv ∧ w.ownsRow 0 e' ie.size vv n xv ∧ n = xs.length ∧ RepD c.K (.lst ie.size xs) vv ∧
      ∀ g, vv.ownBlock = some g → (∀ o v, c.K g o = some v → o < n * ie.size) ∧ (∀ k, c.M k ≠ some g) ∧ (∀ τ, σ.live τ = true → τ ∉ us → ∀ q, c.O τ = some q → q.1.ownBlock ≠ some g) ∧ ∃ τ ∈ us, ∃ q, c.O τ = some q ∧ q.1.ownBlock = some g := by
    have hp := evalO_sound he hx
    rcases hvx with ⟨τ, rfl, hl, rfl⟩ | ⟨q, rfl, rfl, rfl⟩
    · generalize a.eval x = u at hp
      cases hp with
      | acc _ _ _ _ e1 hO hR =>
        obtain ⟨x1, e2, sz2, n, xv, k1, k2, k3⟩ := hs.own τ hl
        rw [hO] at k1
        simp only [Option.some.injEq, Prod.mk.injEq] at k1
        obtain ⟨rfl, rfl, rfl⟩ := k1
        have hnn : n = xs.length := by
          rcases k2.2 with ⟨rfl, rfl⟩ | ⟨g, cap, cur, rfl, _⟩
          · cases hR; rfl
          · cases hR <;> rfl
        refine ⟨_, _, n, xv, rfl, k2, hnn, hR, fun g hg => ⟨(k3 g hg).1, (k3 g hg).2, fun τ' hl' hne q hq hqg => hne ?_, τ, by simp, _, hO, hg⟩⟩
        rw [hs.odis τ' τ _ _ g hl' hl hq hO hqg hg]; simp
    · generalize a.eval x = u at hp
      cases hp with
      | dat _ _ h =>
        cases h
        exact ⟨_, e, 0, [], rfl, World.ownsRow_nil w 0 e _, rfl, .nils _, fun g hg => by simp [Value.ownBlock] at hg⟩
  -- what is appended
  have hpy := asD_sound (evalO_sound he hy) hdy
  subst hne
  have done : ∀ (v' : Value) (w' : World) (e'' : TypeId) (news : List Value) (f : Nat → Nat → Value), (Builtin.append_ #[t, t] o.type #[vv, a.eval y]).run P w = .ok v' w' → w'.ownsRow 0 e'' ie.size v' (xs.length + ys.length) (xv ++ news) →
      ((v'.ownBlock = vv.ownBlock ∧ w.grownBy w' vv.ownBlock) ∨ (v'.ownBlock = some w.heap.size ∧ w.grownBy w' none)) → news.length = ys.length * ie.size → (∀ r ∈ ys, r.length = ie.size) →
      (∀ (i : Nat) (r : List DV), ys[i]? = some r → ∀ (j : Nat) (dd : DV), r[j]? = some dd → news[i * ie.size + j]? = some (f i j) ∧ (f i j).oneCell' = true ∧ RepD c.K dd (f i j)) → o.wp P a w K Q := by
    intro v' w' e'' news f hrun hown' hgr hnl hsz hnew
    have hrow := stepF_row hs d (.acc (d, 0, σ.ep) ie.size (xs ++ ys)) us e' e'' ie.size xs.length (xs.length + ys.length) vv v' xv (xv ++ news) hf hown hown' ⟨news, rfl⟩ hgr hng
    have hex : (execOp a.eval o).run P w = .ok (.value v') w' := by
      simp only [execOp, ho, resolve, hc, ha, invoke, builtin, Sem.run_bind, Sem.run_pure, Result.andThen_ok, List.map_toArray, List.map_cons, List.map_nil, hat, hvv]
      rw [hrun]
      rfl
    refine wp_of_run hex (hn _ _ _ (.acc _ _ _ _ e'' (upd_same _ _ _) ?_) (by rw [hd]; exact hrow.1))
    have hlen : (xs ++ ys).length = xs.length + ys.length := by simp
    cases hob : v'.ownBlock with
    | none =>
      rcases hown'.2 with ⟨rfl, hz⟩ | ⟨g, cap, cur, rfl, _⟩
      · have hx0 : xs = [] := List.eq_nil_of_length_eq_zero (by omega)
        have hy0 : ys = [] := List.eq_nil_of_length_eq_zero (by omega)
        rw [hx0, hy0]
        exact .nils _
      · simp [Value.ownBlock] at hob
    | some g =>
      obtain ⟨cap, rfl, hcap, hmax, _⟩ := World.ownsRow_at hown' hob
      rw [← hlen]
      have hall : ∀ (i : Nat) (r : List DV), (xs ++ ys)[i]? = some r → ∀ (j : Nat) (dd : DV), r[j]? = some dd → ∃ u, (xv ++ news)[i * ie.size + j]? = some u ∧ u.oneCell' = true ∧ RepD c.K dd u := by
        intro i r hr j dd hj
        rw [List.getElem?_append] at hr
        split at hr
        · rename_i hlt
          -- from what was there
          have hjl : j < ie.size := by
            have : r.length = ie.size := by
              cases hrx with
              | nils => simp at hr
              | emp => simp at hr
              | lst _ _ _ _ _ _ _ _ hs' => exact hs' r (List.mem_of_getElem? hr)
            rw [← this]; exact (List.getElem?_eq_some_iff.1 hj).1
          have hq : i * ie.size + j < xs.length * ie.size := idx_lt hlt hjl
          rw [List.getElem?_append_left (by rw [hown.1]; exact hq)]
          generalize hvv2 : vv = vq at hrx
          cases hrx with
          | nils => simp at hr
          | emp => simp at hr
          | lst _ _ b1 o1 c1 f1 g1 g2 gs gk go gr =>
            subst hvv2
            obtain ⟨cap2, he2, _, _, hcell⟩ := World.ownsRow_at (g := b1) hown rfl
            simp only [Value.slice.injEq, Option.some.injEq, Addr.mk.injEq, true_and] at he2
            obtain ⟨rfl, _⟩ := he2.1
            have := hs.kin _ _ _ (gk i r hr j dd hj)
            rw [Nat.zero_add] at this
            rw [hcell _ hq] at this
            exact ⟨_, this, go i r hr j dd hj, gr i r hr j dd hj⟩
        · rename_i hlt
          obtain ⟨k1, k2, k3⟩ := hnew _ r hr j dd hj
          refine ⟨_, ?_, k2, k3⟩
          have hge : xs.length * ie.size ≤ i * ie.size := Nat.mul_le_mul_right _ (by omega)
          rw [List.getElem?_append_right (by rw [hown.1]; omega), hown.1]
          rw [← k1]
          congr 1
          rw [Nat.sub_mul]; omega
      have hszall : ∀ r ∈ xs ++ ys, r.length = ie.size := by
        intro r hr
        rcases List.mem_append.1 hr with hr | hr
        · cases hrx with
          | nils => simp at hr
          | emp => simp at hr
          | lst _ _ _ _ _ _ _ _ hs' => exact hs' r hr
        · exact hsz r hr
      refine .lst _ _ _ _ _ (fun i j => (xv ++ news).getD (i * ie.size + j) undef) (by rw [hlen]; exact hcap) hmax hszall (fun i r hr j dd hj => ?_) (fun i r hr j dd hj => ?_) (fun i r hr j dd hj => ?_)
      · obtain ⟨u, u1, u2, u3⟩ := hall i r hr j dd hj
        show rowK c.K (.slice (some ⟨g, 0, none⟩) (xs ++ ys).length cap) (xv ++ news) g (0 + i * ie.size + j) = _
        rw [rowK_some rfl, Nat.zero_add]
        unfold knowRow
        rw [if_pos rfl, u1]
        simp [List.getD, u1]
      · obtain ⟨u, u1, u2, u3⟩ := hall i r hr j dd hj
        simp only [List.getD, u1, Option.getD_some]; exact u2
      · obtain ⟨u, u1, u2, u3⟩ := hall i r hr j dd hj
        simp only [List.getD, u1, Option.getD_some]
        refine u3.mono ?_
        rw [hlen]
        exact hrow.1.le.K
  generalize hyv : a.eval y = yv at hpy done
  have nilcase : ys = [] → yv = .slice none 0 0 → o.wp P a w K Q := by
    rintro rfl rfl
    have hr : (Builtin.append_ #[t, t] o.type #[vv, .slice none 0 0]).run P w = .ok vv w := by
      rcases hown.2 with ⟨rfl, _⟩ | ⟨g, cap, cur, rfl, _, _, hnc, _⟩
      · simp [Builtin.append_, run_underlying h1, sizeOf, typeInfo, h3, Builtin.lenOf, Builtin.firstCells]
      · simp [Builtin.append_, run_underlying h1, sizeOf, typeInfo, h3, Builtin.lenOf, Builtin.firstCells, hnc, storeCells]
    exact done vv w e' [] (fun _ _ => undef) hr (by simpa using hown) (.inl ⟨rfl, ⟨rfl, rfl, rfl, Nat.le_refl _, fun _ _ _ => rfl⟩⟩) (by simp) (by simp) (fun i r hr => by simp at hr)
  cases hpy <;> simp [rowD] at hry
  · obtain ⟨_, rfl⟩ := hry; exact nilcase rfl rfl
  · obtain ⟨_, rfl⟩ := hry; exact nilcase rfl rfl
  · rename_i sz' es b1 o1 c1 f1 g1 g2 gs gk go gr
    obtain ⟨rfl, rfl⟩ := hry
    by_cases hys : es = []
    · subst hys
      have hr : (Builtin.append_ #[t, t] o.type #[vv, .slice (some ⟨b1, o1, none⟩) 0 c1]).run P w = .ok vv w := by
        rcases hown.2 with ⟨rfl, _⟩ | ⟨g, cap, cur, rfl, _, _, hnc, _⟩
        · simp [Builtin.append_, run_underlying h1, sizeOf, typeInfo, h3, Builtin.lenOf, Builtin.firstCells, loadCells, loadCellsFrom]
        · simp [Builtin.append_, run_underlying h1, sizeOf, typeInfo, h3, Builtin.lenOf, Builtin.firstCells, hnc, loadCells, loadCellsFrom, storeCells]
      exact done vv w e' [] (fun _ _ => undef) hr (by simpa using hown) (.inl ⟨rfl, ⟨rfl, rfl, rfl, Nat.le_refl _, fun _ _ _ => rfl⟩⟩) (by simp) (by simp) (fun i r hr => by simp at hr)
    · have hsz' : sz' = ie.size := hsy.resolve_right hys
      subst hsz'
      have hin : ∀ (q : Nat) (u : Value), (flat es.length ie.size f1)[q]? = some u → c.K b1 (o1 + q) = some u ∧ u.oneCell' = true := by
        intro q u hq
        obtain ⟨h8, rfl⟩ := flat_some hq
        have hi : q / ie.size < es.length := (Nat.div_lt_iff_lt_mul h2).2 h8
        have hr : es[q / ie.size]? = some es[q / ie.size] := by simp [hi]
        have hj : q % ie.size < (es[q / ie.size]).length := by rw [gs _ (List.getElem_mem hi)]; exact Nat.mod_lt _ h2
        have hd' : (es[q / ie.size])[q % ie.size]? = some (es[q / ie.size])[q % ie.size] := by simp [hj]
        refine ⟨?_, go _ _ hr _ _ hd'⟩
        rw [← gk _ _ hr _ _ hd']
        congr 1
        rw [Nat.add_assoc, Nat.mul_comm, Nat.div_add_mod]
      obtain ⟨v', w', e'', r1, r2, r3⟩ := run_append_acc (P := P) w t o.type e e' ie z h1 h3 h6 h7 vv xs.length xv hown ⟨b1, o1, none⟩ es.length c1 (flat es.length ie.size f1) (flat_length _ _ _)
        (fun q u hq => by rw [addr_add]; exact hs.kin _ _ _ (hin q u hq).1) (fun u hu => by obtain ⟨q, hq⟩ := List.mem_iff_getElem?.1 hu; exact (hin q u hq).2) hm hb
      refine done v' w' e'' _ f1 r1 r2 r3 (flat_length _ _ _) gs (fun i r hr j dd hj => ?_)
      have hj' : j < ie.size := by rw [← gs r (List.mem_of_getElem? hr)]; exact (List.getElem?_eq_some_iff.1 hj).1
      exact ⟨flat_get (List.getElem?_eq_some_iff.1 hr).1 hj', go i r hr j dd hj, gr i r hr j dd hj⟩
  · rename_i sz' ad
    obtain ⟨rfl, rfl⟩ := hry
    have hr : (Builtin.append_ #[t, t] o.type #[vv, .slice (some ad) 0 0]).run P w = .ok vv w := by
      rcases hown.2 with ⟨rfl, _⟩ | ⟨g, cap, cur, rfl, _, _, hnc, _⟩
      · simp [Builtin.append_, run_underlying h1, sizeOf, typeInfo, h3, Builtin.lenOf, Builtin.firstCells, loadCells, loadCellsFrom]
      · simp [Builtin.append_, run_underlying h1, sizeOf, typeInfo, h3, Builtin.lenOf, Builtin.firstCells, hnc, loadCells, loadCellsFrom, storeCells]
    exact done vv w e' [] (fun _ _ => undef) hr (by simpa using hown) (.inl ⟨rfl, ⟨rfl, rfl, rfl, Nat.le_refl _, fun _ _ _ => rfl⟩⟩) (by simp) (by simp) (fun i r hr => by simp at hr)

end
end Go.Proofs.Ytehhgamkijkjgaa.AM
