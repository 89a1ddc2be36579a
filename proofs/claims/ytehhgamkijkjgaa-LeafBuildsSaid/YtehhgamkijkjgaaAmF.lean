/- The abstract machine (6): each operation does in the world what it does in the abstract state. -/
import Derived.Test.YtehhgamkijkjgaaAmE
namespace Go.Proofs.Ytehhgamkijkjgaa.AM
open Go.RowKit
set_option linter.unusedVariables false
set_option linter.unusedSimpArgs false
set_option linter.unusedSectionVars false

section
variable {P : Program} {T : Tab} {o : Oper} {σ : St} {a : Act} {w : World} {c : Cfg} {e : Eff} {K : Act → World → Prop} {Q : Exit → Act → World → Prop}

theorem wp_of_run {x : Value} {w' : World} (h : (execOp a.eval o).run P w = .ok (.value x) w') (hk : K (a.put o.dst x) w') : o.wp P a w K Q := by
  unfold Oper.wp; rw [h]; exact hk

theorem wp_of_skip {w' : World} (h : (execOp a.eval o).run P w = .ok .skip w') (hk : K (a.put o.dst undef) w') : o.wp P a w K Q := by
  unfold Oper.wp; rw [h]; exact hk

/-- What comes behind the operation, whatever it does under its effect. -/
def Next (σ : St) (o : Oper) (a : Act) (w : World) (c : Cfg) (K : Act → World → Prop) (e : Eff) : Prop :=
  ∀ v w' c', RepP c' e.val v → StepF σ o.dst e w w' c c' → K (a.put o.dst v) w'

theorem wp_value {v : PV} {x : Value} {rd : List Key} (hs : HS σ w c) (h : (execOp a.eval o).run P w = .ok (.value x) w) (hx : RepP c v x) (hn : Next σ o a w c K { val := v, rd := rd }) : o.wp P a w K Q :=
  wp_of_run h (hn x w c hx (stepF_same hs o.dst v rd))

theorem run_v (s : Sem Value) (x : Value) (w w' : World) (h : s.run P w = .ok x w') : (do pure (Next.value (← s)) : Sem Go.Next).run P w = .ok (.value x) w' := by
  rw [Sem.run_bind, h]; rfl

variable (hs : HS σ w c) (he : EnvOk σ a c)
include hs he

theorem sound_move {x : Operand} {v : PV} (ho : o.op = .move x) (hv : evalO σ x = some v) (hn : Next σ o a w c K { val := v }) : o.wp P a w K Q :=
  wp_value (rd := []) hs (by simp [execOp, ho]) (evalO_sound he hv) hn

theorem sound_assign {x : Operand} {v : PV} (ho : o.op = .assign x) (hv : evalO σ x = some v) (hn : Next σ o a w c K { val := v }) : o.wp P a w K Q :=
  wp_value (rd := []) hs (by simp [execOp, ho]) (evalO_sound he hv) hn

theorem sound_assign_nil {x : Operand} {d : Nat} {e : TypeId} {sz : Nat} (ho : o.op = .assign x) (hx : isNilRow x = true) (hd : o.dst = some d) (hf : c.O (d, 0, σ.ep) = none)
    (hn : Next σ o a w c K { val := .acc (d, 0, σ.ep) sz [], nw := [0] }) : o.wp P a w K Q := by
  have hx' : a.eval x = .slice none 0 0 := by
    unfold isNilRow at hx
    split at hx <;> first | rfl | (cases hx)
  have hst := stepF_nil hs d (.acc (d, 0, σ.ep) sz []) e sz hf
  rw [← hd] at hst
  exact wp_of_run (x := .slice none 0 0) (w' := w) (by simp [execOp, ho, hx']) (hn _ _ { c with O := upd c.O (d, 0, σ.ep) (some (.slice none 0 0, e, sz)) } (.acc _ _ _ _ e (upd_same _ _ _) (.nils _)) hst)

theorem sound_pick {x y z : Operand} {t : Bool} {v : PV} (ho : o.op = .pick x y z) (hx : evalO σ x = some (.dat (.bool t))) (hv : (if t = true then evalO σ y else evalO σ z) = some v)
    (hn : Next σ o a w c K { val := v }) : o.wp P a w K Q := by
  have h1 := evalO_sound he hx
  have hb : a.eval x = .bool t := by
    generalize a.eval x = u at h1 ⊢
    cases h1 with | dat _ _ h => cases h; rfl
  refine wp_value (rd := []) (x := if t = true then a.eval y else a.eval z) hs (by simp [execOp, ho, hb, asBool]) ?_ hn
  split <;> rename_i ht <;> simp only [ht, if_true, if_false, Bool.false_eq_true] at hv <;> exact evalO_sound he hv

theorem sound_alloc (hT : ∀ t i, T t = some i → i.Good P t) {t : TypeId} {i : TyI} {d : Nat} (ho : o.op = .alloc t) (hd : o.dst = some d) (hi : T t = some i) (hf : c.M (d, 0, σ.ep) = none)
    (hn : Next σ o a w c K { val := .ptr (d, 0, σ.ep) 0, al := [(0, i.zero.map .dat)] }) : o.wp P a w K Q := by
  obtain ⟨inf, z, h1, h2, h3, h4, h5, h6, h7⟩ := (hT t i hi).info
  have hrun : (execOp a.eval o).run P w = .ok (.value (.pointer (some ⟨w.heap.size, 0, none⟩))) (w.alloc (.cells z.cells t)) := by
    simp [execOp, ho, Instr.alloc, zeroValue, typeInfo, h1, h3, newVar, newRow]
  refine wp_of_run hrun (hn _ _ { c with M := upd c.M (d, 0, σ.ep) (some w.heap.size) } (.ptr _ _ _ (upd_same _ _ _)) ?_)
  rw [hd]
  refine stepF_box hs d _ _ z.cells t hf (by simp [h4, h5]) (fun j v hj => ?_)
  simp only [List.getElem?_map, Option.map_eq_some_iff] at hj
  obtain ⟨dv, hj, rfl⟩ := hj
  have hlt : j < z.cells.size := by rw [h4, ← h5]; exact (List.getElem?_eq_some_iff.1 hj).1
  exact ⟨_, some_of_lt undef hlt, (h6 j dv hj).1, .dat _ _ ((h6 j dv hj).2 _)⟩

theorem sound_box {t : TypeId} {i : TyI} {x : Operand} {d : Nat} {cs : List PV} (ho : o.op = .box t x) (hd : o.dst = some d) (hx : (evalO σ x).bind (cellsT i) = some cs) (hf : c.M (d, 0, σ.ep) = none)
    (hn : Next σ o a w c K { val := .ptr (d, 0, σ.ep) 0, al := [(0, cs)] }) : o.wp P a w K Q := by
  simp only [Option.bind_eq_some_iff] at hx
  obtain ⟨v, hv, hc⟩ := hx
  obtain ⟨h1, h2, h3⟩ := cellsT_sound (evalO_sound he hv) hc
  have hrun : (execOp a.eval o).run P w = .ok (.value (.pointer (some ⟨w.heap.size, 0, none⟩))) (w.alloc (.cells (a.eval x).cells t)) := by
    simp [execOp, ho, Instr.box, newVar, newRow]
  refine wp_of_run hrun (hn _ _ { c with M := upd c.M (d, 0, σ.ep) (some w.heap.size) } (.ptr _ _ _ (upd_same _ _ _)) ?_)
  rw [hd]
  exact stepF_box hs d _ _ _ t hf (by rw [h1, h2]) h3

theorem sound_load_box (hT : ∀ t i, T t = some i → i.Good P t) {t : TypeId} {i : TyI} {x : Operand} {k : Key} {off : Nat} {cs : List PV} {v : PV} (ho : o.op = .load t x) (hi : T t = some i) (hx : evalO σ x = some (.ptr k off))
    (hk : σ.mem k = some cs) (hv : (i.isAgg = true ∧ off + i.size ≤ cs.length ∧ v = collect ((cs.drop off).take i.size)) ∨ (i.isAgg = false ∧ cs[off]? = some v))
    (hn : Next σ o a w c K { val := v, rd := [k] }) : o.wp P a w K Q := by
  obtain ⟨b, ty, arr, h1, h2, h3, h4⟩ := hs.box k cs hk
  have hp := evalO_sound he hx
  have hb : a.eval x = .pointer (some ⟨b, off, none⟩) := by
    generalize a.eval x = u at hp ⊢
    cases hp with
    | ptr _ _ b' hm => rw [h1] at hm; cases hm; rfl
  have hg := hT t i hi
  rcases hv with ⟨ha, hl, rfl⟩ | ⟨ha, hv⟩
  · have hrun : (loadVar t ⟨b, off, none⟩).run P w = .ok (.agg ((arr.toList.drop off).take i.size).toArray) w := by
      refine run_loadVar_aggL w t _ _ (by rw [hg.runAgg, ha]) ?_ (fun j v hj => ?_)
      · rw [hg.runSize]; congr 1; simp; omega
      · rw [addr_add, cell_of_row w b (off + j) arr ty (0, 0) h2]
        simp only [List.getElem?_take, List.getElem?_drop] at hj
        split at hj
        · simpa using hj
        · cases hj
    refine wp_value hs (x := .agg ((arr.toList.drop off).take i.size).toArray) ?_ ?_ hn
    · simp [execOp, ho, hb, Instr.loadAt, Instr.sureAddr, hrun]
    · refine collect_sound (by simp; omega) (fun j p hp => ?_)
      simp only [List.getElem?_take, List.getElem?_drop] at hp
      split at hp
      · rename_i hj
        obtain ⟨y, h5, h6, h7⟩ := h4 _ _ hp
        have : (((arr.toList.drop off).take i.size).toArray).getD j undef = y := by
          apply getD_of_some
          simp [List.getElem?_take, List.getElem?_drop, hj, h5]
        rw [this]; exact ⟨h6, h7⟩
      · cases hp
  · obtain ⟨y, h5, h6, h7⟩ := h4 _ _ hv
    have hrun : (loadVar t ⟨b, off, none⟩).run P w = .ok y w :=
      run_loadVar_oneL w t _ y (by rw [hg.runAgg, ha]) (by rw [cell_of_row w b off arr ty (0, 0) h2]; exact h5)
    exact wp_value hs (x := y) (by simp [execOp, ho, hb, Instr.loadAt, Instr.sureAddr, hrun]) h7 hn

theorem sound_load_ip (hT : ∀ t i, T t = some i → i.Good P t) {t : TypeId} {i : TyI} {x : Operand} {off : Nat} {cs : List DV} {v : DV} (ho : o.op = .load t x) (hi : T t = some i) (hx : evalO σ x = some (.dat (.ip cs off)))
    (hv : (i.isAgg = true ∧ off + i.size ≤ cs.length ∧ v = .agg ((cs.drop off).take i.size)) ∨ (i.isAgg = false ∧ cs[off]? = some v))
    (hn : Next σ o a w c K { val := .dat v }) : o.wp P a w K Q := by
  have hp := evalO_sound he hx
  obtain ⟨b, o', f, hb, hk, hone, hr⟩ : ∃ (b o' : Nat) (f : Nat → Value), a.eval x = .pointer (some ⟨b, o' + off, none⟩) ∧ (∀ (j : Nat) (d : DV), cs[j]? = some d → c.K b (o' + j) = some (f j)) ∧
      (∀ (j : Nat) (d : DV), cs[j]? = some d → (f j).oneCell' = true) ∧ ∀ (j : Nat) (d : DV), cs[j]? = some d → RepD c.K d (f j) := by
    generalize a.eval x = u at hp ⊢
    cases hp with
    | dat _ _ h => cases h with | ip _ _ b o' f hk hone hr => exact ⟨b, o', f, rfl, hk, hone, hr⟩
  have hg := hT t i hi
  rcases hv with ⟨ha, hl, rfl⟩ | ⟨ha, hv⟩
  · have hrun : (loadVar t ⟨b, o' + off, none⟩).run P w = .ok (.agg ((List.range i.size).map fun j => f (off + j)).toArray) w := by
      refine run_loadVar_aggL w t _ _ (by rw [hg.runAgg, ha]) (by rw [hg.runSize]; simp) (fun j v hj => ?_)
      simp only [List.getElem?_map, Option.map_eq_some_iff] at hj
      obtain ⟨q, hq, rfl⟩ := hj
      obtain ⟨h1, h2⟩ := List.getElem?_eq_some_iff.1 hq
      simp at h1 h2
      subst h2
      rw [addr_add]
      have hlt : off + j < cs.length := by omega
      have := hk (off + j) cs[off + j] (by simp [hlt])
      rw [← Nat.add_assoc] at this
      exact hs.kin _ _ _ this
    refine wp_value (rd := []) hs (x := .agg ((List.range i.size).map fun j => f (off + j)).toArray) ?_ ?_ hn
    · simp [execOp, ho, hb, Instr.loadAt, Instr.sureAddr, hrun]
    · have hget : ∀ (j : Nat) (d : DV), ((cs.drop off).take i.size)[j]? = some d → cs[off + j]? = some d ∧ (((List.range i.size).map fun j => f (off + j)).toArray).getD j undef = f (off + j) := by
        intro j d hj
        simp only [List.getElem?_take, List.getElem?_drop] at hj
        split at hj
        · rename_i hlt
          exact ⟨hj, getD_of_some (by simp [hlt])⟩
        · cases hj
      refine .dat _ _ (.agg _ _ (by simp; omega) (fun j d hj => ?_) fun j d hj => ?_)
      · obtain ⟨h1, h2⟩ := hget j d hj
        rw [h2]; exact hone _ d h1
      · obtain ⟨h1, h2⟩ := hget j d hj
        rw [h2]; exact hr _ d h1
  · have hrun : (loadVar t ⟨b, o' + off, none⟩).run P w = .ok (f off) w :=
      run_loadVar_oneL w t _ _ (by rw [hg.runAgg, ha]) (hs.kin _ _ _ (hk off v hv))
    exact wp_value (rd := []) hs (x := f off) (by simp [execOp, ho, hb, Instr.loadAt, Instr.sureAddr, hrun]) (.dat _ _ (hr off v hv)) hn

theorem sound_store (hT : ∀ t i, T t = some i → i.Good P t) {t : TypeId} {i : TyI} {x y : Operand} {k : Key} {off : Nat} {cs new : List PV} (ho : o.op = .store t x y) (hd : o.dst = none) (hi : T t = some i) (hx : evalO σ x = some (.ptr k off))
    (hk : σ.mem k = some cs) (hy : (evalO σ y).bind (cellsT i) = some new) (hl : off + new.length ≤ cs.length)
    (hn : Next σ o a w c K { val := unitP, wr := [(k, setR cs off new)], rd := [k] }) : o.wp P a w K Q := by
  obtain ⟨b, ty, arr, h1, h2, h3, h4⟩ := hs.box k cs hk
  have hp := evalO_sound he hx
  have hb : a.eval x = .pointer (some ⟨b, off, none⟩) := by
    generalize a.eval x = u at hp ⊢
    cases hp with
    | ptr _ _ b' hm => rw [h1] at hm; cases hm; rfl
  simp only [Option.bind_eq_some_iff] at hy
  obtain ⟨v, hv, hc⟩ := hy
  obtain ⟨h5, h6, h7⟩ := cellsT_sound (evalO_sound he hv) hc
  have hg := hT t i hi
  have hvl : (a.eval y).cells.toList.length = new.length := by simp [h5, h6]
  have hst := run_storeCells_at P b off ty (a.eval y).cells.toList 0 arr w h2 (by rw [hvl]; omega) (fun u hu => by
    obtain ⟨j, hj⟩ := List.mem_iff_getElem?.1 hu
    have hlt : j < new.length := by rw [← hvl]; exact (List.getElem?_eq_some_iff.1 hj).1
    obtain ⟨y', h8, h9, _⟩ := h7 j new[j] (by simp [hlt])
    simp only [Array.getElem?_toList] at hj
    rw [h8] at hj; cases hj; exact h9)
  have hrun : (execOp a.eval o).run P w = .ok .skip (w.setRow b (arr.toList.take off ++ (a.eval y).cells.toList ++ arr.toList.drop (off + (a.eval y).cells.toList.length)).toArray) := by
    simp only [Nat.add_zero] at hst
    simp [execOp, ho, hb, Instr.storeAt, Instr.sureAddr, storeVar, hg.runSize, h5, hst]
  refine wp_of_skip hrun (hn _ _ c (.dat _ _ (.tup [] #[] rfl (fun j d hj => by simp at hj))) ?_)
  refine stepF_store hs o.dst _ k b cs _ arr _ ty [k] h1 hk h2 ?_ (fun j p hp => ?_)
  · simp [setR]; omega
  · rw [getElem?_setR _ _ _ _ hl] at hp
    have hget : (arr.toList.take off ++ (a.eval y).cells.toList ++ arr.toList.drop (off + (a.eval y).cells.toList.length)).toArray[j]? =
        if off ≤ j ∧ j < off + new.length then (a.eval y).cells[j - off]? else arr[j]? := by
      rw [List.getElem?_toArray, getElem?_setRow _ _ _ _ (by rw [hvl]; simp; omega), hvl]
      simp
    rw [hget]
    split at hp
    · rename_i hc
      rw [if_pos hc]
      exact h7 _ _ hp
    · rename_i hc
      rw [if_neg hc]
      exact h4 _ _ hp

end
end Go.Proofs.Ytehhgamkijkjgaa.AM
