/- The abstract machine (7): operations that only compute. -/
import Derived.Test.YtehhgamkijkjgaaAmF
namespace Go.Proofs.Ytehhgamkijkjgaa.AM
open Go.RowKit
set_option linter.unusedVariables false
set_option linter.unusedSimpArgs false
set_option linter.unusedSectionVars false

section
variable {P : Program} {T : Tab} {o : Oper} {σ : St} {a : Act} {w : World} {c : Cfg} {e : Eff} {K : Act → World → Prop} {Q : Exit → Act → World → Prop}

theorem tyOf_some {t : TypeId} {ty : Ty} (h : tyOf T t = ty) (hn : ty ≠ .other) : ∃ i, T t = some i ∧ i.ty = ty := by
  unfold tyOf at h
  cases ht : T t with
  | none => rw [ht] at h; exact absurd h.symm hn
  | some i => rw [ht] at h; exact ⟨i, rfl, h⟩

theorem und_slice (hT : ∀ t i, T t = some i → i.Good P t) {t e : TypeId} {sz bytes : Nat} (h : tyOf T t = .slice e sz bytes) :
    P.underlying t = some (.slice e) ∧ 0 < sz ∧ ∃ ie z, P.info? e = some ie ∧ ie.size = sz ∧ ie.bytes = bytes ∧ ie.zero = some z ∧ z.cells.size = sz := by
  obtain ⟨i, h1, h2⟩ := tyOf_some h (by simp)
  obtain ⟨d, h3, h4⟩ := (hT t i h1).und
  unfold UndOk at h4
  rw [h2] at h4
  obtain ⟨rfl, _, h5, h6⟩ := h4
  exact ⟨h3, h5, h6⟩

theorem und_str (hT : ∀ t i, T t = some i → i.Good P t) {t : TypeId} (h : tyOf T t = .str) : P.underlying t = some .string := by
  obtain ⟨i, h1, h2⟩ := tyOf_some h (by simp)
  obtain ⟨d, h3, h4⟩ := (hT t i h1).und
  unfold UndOk at h4
  rw [h2] at h4
  rw [h3, h4.1]

theorem und_bool (hT : ∀ t i, T t = some i → i.Good P t) {t : TypeId} (h : tyOf T t = .bool) : P.underlying t = some .bool := by
  obtain ⟨i, h1, h2⟩ := tyOf_some h (by simp)
  obtain ⟨d, h3, h4⟩ := (hT t i h1).und
  unfold UndOk at h4
  rw [h2] at h4
  rw [h3, h4.1]

theorem und_iface (hT : ∀ t i, T t = some i → i.Good P t) {t : TypeId} (h : tyOf T t = .iface) : ∃ ms, P.underlying t = some (.interface ms) := by
  obtain ⟨i, h1, h2⟩ := tyOf_some h (by simp)
  obtain ⟨d, h3, h4⟩ := (hT t i h1).und
  unfold UndOk at h4
  rw [h2] at h4
  obtain ⟨⟨ms, rfl⟩, _⟩ := h4
  exact ⟨ms, h3⟩

theorem und_struct (hT : ∀ t i, T t = some i → i.Good P t) {t : TypeId} {fs : List (Nat × Nat × Bool)} (h : tyOf T t = .struct fs) :
    ∃ fields, P.underlying t = some (.struct fields) ∧ fs.length = fields.size ∧ ∀ (k : Nat) (off sz : Nat) (ag : Bool), fs[k]? = some (off, sz, ag) →
      ∃ f, fields[k]? = some f ∧ f.offset = off ∧ 0 < sz ∧ (∃ inf, P.info? f.type = some inf ∧ inf.size = sz) ∧ ∃ df, P.underlying f.type = some df ∧ isAggDesc df = ag := by
  obtain ⟨i, h1, h2⟩ := tyOf_some h (by simp)
  obtain ⟨d, h3, h4⟩ := (hT t i h1).und
  unfold UndOk at h4
  rw [h2] at h4
  obtain ⟨fields, rfl, h5, h6⟩ := h4
  exact ⟨fields, h3, h5, h6⟩

/-! ### '==' and other operators -/

theorem RepD.int_inv {K : Known} {k : IntKind} {n : Int} {x : Value} (h : RepD K (.int k n) x) : x = .int k n := by cases h; rfl
theorem RepD.bool_inv {K : Known} {b : Bool} {x : Value} (h : RepD K (.bool b) x) : x = .bool b := by cases h; rfl
theorem RepD.str_inv {K : Known} {l : List UInt8} {x : Value} (h : RepD K (.str l) x) : x = .string ⟨l.toArray⟩ ∧ l.length ≤ maxLen := by cases h; exact ⟨rfl, by assumption⟩
theorem RepD.nilI_inv {K : Known} {x : Value} (h : RepD K .nilI x) : x = .nilIface := by cases h; rfl
theorem RepD.ifc_inv {K : Known} {t : TypeId} {d : DV} {x : Value} (h : RepD K (.ifc t d) x) : ∃ v, x = .iface t v ∧ RepD K d v := by cases h; exact ⟨_, rfl, by assumption⟩
theorem RepD.agg_inv {K : Known} {cs : List DV} {x : Value} (h : RepD K (.agg cs) x) : ∃ vs, x = .agg vs := by cases h; exact ⟨_, rfl⟩

theorem beqL (a b : List UInt8) : ((⟨a.toArray⟩ : ByteArray).toList == (⟨b.toArray⟩ : ByteArray).toList) = decide (a = b) := by
  rw [ByteArray.toList_eq, ByteArray.toList_eq]
  rw [Bool.eq_iff_iff]
  simp

theorem run_intBin {op : BinOp} {t : TypeId} {x y : Operand} {k : IntKind} {p q : Int} {d : DV} (h : intBin op k p q = some d) (w : World) :
    ∃ v, RepD c.K d v ∧ (do eqGuard op t x y (.int k p) (.int k q); binOp op t (.int k p) (.int k q) : Sem Value).run P w = .ok v w := by
  cases op <;> simp [intBin] at h
  case add => subst h; exact ⟨_, .int _ _, by simp [eqGuard, binOp, Op.intArith]⟩
  case sub => subst h; exact ⟨_, .int _ _, by simp [eqGuard, binOp, Op.intArith]⟩
  case mul => subst h; exact ⟨_, .int _ _, by simp [eqGuard, binOp, Op.intArith]⟩
  case quo => obtain ⟨h0, rfl⟩ := h; exact ⟨_, .int _ _, by simp [eqGuard, binOp, Op.intDiv, h0]⟩
  case rem => obtain ⟨h0, rfl⟩ := h; exact ⟨_, .int _ _, by simp [eqGuard, binOp, Op.intDiv, h0]⟩
  case eql => subst h; exact ⟨_, .bool _, by simp [eqGuard, binOp, Op.intCmp]; rw [Bool.eq_iff_iff]; simp⟩
  case neq => subst h; exact ⟨_, .bool _, by simp [eqGuard, binOp, Op.intCmp]; rw [Bool.eq_iff_iff]; simp⟩
  case lss => subst h; exact ⟨_, .bool _, by simp [eqGuard, binOp, Op.intCmp]⟩
  case leq => subst h; exact ⟨_, .bool _, by simp [eqGuard, binOp, Op.intCmp]⟩
  case gtr => subst h; exact ⟨_, .bool _, by simp [eqGuard, binOp, Op.intCmp]⟩
  case geq => subst h; exact ⟨_, .bool _, by simp [eqGuard, binOp, Op.intCmp]⟩

theorem run_strBin {op : BinOp} {t : TypeId} {x y : Operand} {p q : List UInt8} {d : DV} (h : strBin op p q = some d) (w : World) :
    ∃ v, RepD c.K d v ∧ (do eqGuard op t x y (.string ⟨p.toArray⟩) (.string ⟨q.toArray⟩); binOp op t (.string ⟨p.toArray⟩) (.string ⟨q.toArray⟩) : Sem Value).run P w = .ok v w := by
  have hl : Op.bytesLess (⟨p.toArray⟩ : ByteArray).toList (⟨q.toArray⟩ : ByteArray).toList = strLt p q := by rw [ByteArray.toList_eq, ByteArray.toList_eq]; rfl
  have hq := beqL p q
  have h1 : eqGuard op t x y (.string ⟨p.toArray⟩) (.string ⟨q.toArray⟩) = pure () := by cases op <;> rfl
  have h2 : binOp op t (.string ⟨p.toArray⟩) (.string ⟨q.toArray⟩) = Op.stringOp op ⟨p.toArray⟩ ⟨q.toArray⟩ := by cases op <;> rfl
  rw [h1, h2, Sem.run_bind, Sem.run_pure, Result.andThen_ok]
  unfold Op.stringOp
  rw [hl, hq]
  cases op <;> simp only [strBin, Option.some.injEq, reduceCtorEq] at h <;> subst h <;> exact ⟨_, .bool _, rfl⟩

theorem run_equal_nils {t : TypeId} {ms : Array (String × TypeId)} (w : World) (ht : P.underlying t = some (.interface ms)) : (Op.equal t .nilIface .nilIface).run P w = .ok true w := by
  have h : ∀ d, (Op.equalIn (d + 1) t .nilIface .nilIface).run P w = .ok true w := fun d => by simp [Op.equalIn, run_underlying ht]
  unfold Op.equal Op.maxDepth
  exact h 9999

theorem run_equal_ifc_nil {t u : TypeId} {v : Value} {ms : Array (String × TypeId)} (w : World) (ht : P.underlying t = some (.interface ms)) : (Op.equal t (.iface u v) .nilIface).run P w = .ok false w := by
  have h : ∀ d, (Op.equalIn (d + 1) t (.iface u v) .nilIface).run P w = .ok false w := fun d => by simp [Op.equalIn, run_underlying ht]
  unfold Op.equal Op.maxDepth
  exact h 9999

theorem run_binD (hT : ∀ t i, T t = some i → i.Good P t) {op : BinOp} {t : TypeId} {x y : Operand} {p q d : DV} {u v : Value} (h : binD T op t y p q = some d) (hp : RepD c.K p u) (hq : RepD c.K q v) (w : World) :
    ∃ r, RepD c.K d r ∧ (do eqGuard op t x y u v; binOp op t u v : Sem Value).run P w = .ok r w := by
  unfold binD at h
  split at h
  · split at h
    · rename_i k p' k' q' hk
      subst hk
      obtain rfl := hp.int_inv
      obtain rfl := hq.int_inv
      exact run_intBin h w
    · simp at h
  · obtain ⟨rfl, _⟩ := hp.str_inv
    obtain ⟨rfl, _⟩ := hq.str_inv
    exact run_strBin h w
  · obtain rfl := hp.bool_inv
    obtain rfl := hq.bool_inv
    rename_i p' q'
    have hr : ∀ (ht : P.underlying t = some .bool), (Op.equal t (.bool p') (.bool q')).run P w = .ok (p' == q') w := fun ht => by
      unfold Op.equal Op.maxDepth
      exact run_equalIn_bool' w 9999 t p' q' ht
    split at h <;> simp at h <;> subst h <;> rename_i hty
    · have ht := und_bool hT hty
      refine ⟨_, .bool _, ?_⟩
      simp [eqGuard, binOp, hr ht]
      rw [Bool.eq_iff_iff]; simp
    · have ht := und_bool hT hty
      refine ⟨_, .bool _, ?_⟩
      simp [eqGuard, binOp, hr ht]
      rw [Bool.eq_iff_iff]; simp
  · split at h
    · rename_i xs ys i hi
      split at h
      · simp at h
      · rename_i hc
        obtain ⟨hg, he⟩ := (hT t i hi).eq (by simpa using hc)
        obtain ⟨vx, rfl⟩ := hp.agg_inv
        obtain ⟨vy, rfl⟩ := hq.agg_inv
        split at h <;> first | (simp at h; done) | simp only [Option.map_eq_some_iff] at h
        · obtain ⟨b, hb, rfl⟩ := h
          refine ⟨_, .bool _, ?_⟩
          rw [Sem.run_bind, run_eqGuard_agg w _ _ _ _ _ _ hg, Result.andThen_ok, run_eql_struct, he c.K w _ _ vx vy b hb hp hq]
          rfl
        · obtain ⟨b, hb, rfl⟩ := h
          refine ⟨_, .bool _, ?_⟩
          rw [Sem.run_bind, run_eqGuard_agg w _ _ _ _ _ _ hg, Result.andThen_ok, run_neq_struct, he c.K w _ _ vx vy b hb hp hq]
          rfl
    · simp at h
  · obtain rfl := hp.nilI_inv
    obtain rfl := hq.nilI_inv
    split at h <;> simp at h <;> subst h <;> rename_i hty
    · obtain ⟨ms, ht⟩ := und_iface hT hty
      refine ⟨_, .bool _, ?_⟩
      simp [eqGuard, binOp, run_equal_nils w ht, run_equal_ifc_nil w ht]
    · obtain ⟨ms, ht⟩ := und_iface hT hty
      refine ⟨_, .bool _, ?_⟩
      simp [eqGuard, binOp, run_equal_nils w ht, run_equal_ifc_nil w ht]
  · obtain ⟨z, rfl, _⟩ := hp.ifc_inv
    obtain rfl := hq.nilI_inv
    split at h <;> simp at h <;> subst h <;> rename_i hty
    · obtain ⟨ms, ht⟩ := und_iface hT hty
      refine ⟨_, .bool _, ?_⟩
      simp [eqGuard, binOp, run_equal_nils w ht, run_equal_ifc_nil w ht]
    · obtain ⟨ms, ht⟩ := und_iface hT hty
      refine ⟨_, .bool _, ?_⟩
      simp [eqGuard, binOp, run_equal_nils w ht, run_equal_ifc_nil w ht]
  · simp at h

variable (hs : HS σ w c) (he : EnvOk σ a c)
include hs he

theorem sound_binOp (hT : ∀ t i, T t = some i → i.Good P t) {op : BinOp} {t t' : TypeId} {x y : Operand} {p q d : DV} (ho : o.op = .binOp op t x y t') (hx : evalD σ x = some p) (hy : evalD σ y = some q) (hd : binD T op t y p q = some d)
    (hn : Next σ o a w c K { val := .dat d }) : o.wp P a w K Q := by
  obtain ⟨r, h1, h2⟩ := run_binD (x := x) hT hd (evalD_sound he hx) (evalD_sound he hy) w
  exact wp_value (rd := []) hs (by simp only [execOp, ho]; exact run_v _ _ _ _ h2) (.dat _ _ h1) hn

theorem sound_not {t : TypeId} {x : Operand} {b : Bool} (ho : o.op = .unOp .not t x) (hx : evalD σ x = some (.bool b)) (hn : Next σ o a w c K { val := .dat (.bool (!b)) }) : o.wp P a w K Q := by
  have h := (evalD_sound he hx).bool_inv
  exact wp_value (rd := []) hs (x := .bool (!b)) (by simp [execOp, ho, h, Op.unary]) (.dat _ _ (.bool _)) hn

theorem sound_fieldAddr_box (hT : ∀ t i, T t = some i → i.Good P t) {t : TypeId} {x : Operand} {f : Nat} {fs : List (Nat × Nat × Bool)} {k : Key} {off : Nat} {p : Nat × Nat × Bool} (ho : o.op = .fieldAddr t x f) (ht : tyOf T t = .struct fs)
    (hx : evalO σ x = some (.ptr k off)) (hf : fs[f]? = some p) (hn : Next σ o a w c K { val := .ptr k (off + p.1) }) : o.wp P a w K Q := by
  obtain ⟨fields, h1, _, h2⟩ := und_struct hT ht
  obtain ⟨fo, sz, ag⟩ := p
  obtain ⟨fd, h3, h4, h5, ⟨inf, h6, h7⟩, _⟩ := h2 f fo sz ag hf
  have hp := evalO_sound he hx
  obtain ⟨b, hb, hm⟩ : ∃ b, a.eval x = .pointer (some ⟨b, off, none⟩) ∧ c.M k = some b := by
    generalize a.eval x = u at hp ⊢
    cases hp with | ptr _ _ b h => exact ⟨b, rfl, h⟩
  refine wp_value (rd := []) hs (x := .pointer (some ⟨b, off + fo, none⟩)) ?_ (.ptr _ _ _ hm) hn
  have hz : ¬ inf.size = 0 := by omega
  simp [execOp, ho, hb, Instr.fieldAt, run_underlying h1, h3, Instr.sureAddr, fieldPlace, run_sizeOf_info h6, hz, addr_add, h4]

theorem sound_fieldAddr_ip (hT : ∀ t i, T t = some i → i.Good P t) {t : TypeId} {x : Operand} {f : Nat} {fs : List (Nat × Nat × Bool)} {cs : List DV} {off : Nat} {p : Nat × Nat × Bool} (ho : o.op = .fieldAddr t x f) (ht : tyOf T t = .struct fs)
    (hx : evalO σ x = some (.dat (.ip cs off))) (hf : fs[f]? = some p) (hn : Next σ o a w c K { val := .dat (.ip cs (off + p.1)) }) : o.wp P a w K Q := by
  obtain ⟨fields, h1, _, h2⟩ := und_struct hT ht
  obtain ⟨fo, sz, ag⟩ := p
  obtain ⟨fd, h3, h4, h5, ⟨inf, h6, h7⟩, _⟩ := h2 f fo sz ag hf
  have hp := evalO_sound he hx
  have hz : ¬ inf.size = 0 := by omega
  generalize hu : a.eval x = u at hp
  cases hp with
  | dat _ _ h =>
    cases h with
    | ip _ _ b o' g hk hone hr =>
      refine wp_value (rd := []) hs (x := .pointer (some ⟨b, o' + (off + fo), none⟩)) ?_ (.dat _ _ (.ip _ _ _ _ g hk hone hr)) hn
      simp [execOp, ho, hu, Instr.fieldAt, run_underlying h1, h3, Instr.sureAddr, fieldPlace, run_sizeOf_info h6, hz, addr_add, h4, Nat.add_assoc]

theorem sound_indexAddr (hT : ∀ t i, T t = some i → i.Good P t) {t e : TypeId} {x i : Operand} {sz bytes : Nat} {es : List (List DV)} {k : IntKind} {n : Int} {cs : List DV} (ho : o.op = .indexAddr t x i) (ht : tyOf T t = .slice e sz bytes)
    (hx : evalD σ x = some (.lst sz es)) (hi : evalD σ i = some (.int k n)) (h0 : 0 ≤ n) (hc : es[n.toNat]? = some cs) (hn : Next σ o a w c K { val := .dat (.ip cs 0) }) : o.wp P a w K Q := by
  obtain ⟨h1, h2, ie, z, h3, h4, _⟩ := und_slice hT ht
  have hk := (evalD_sound he hi).int_inv
  have hp := evalD_sound he hx
  generalize hu : a.eval x = u at hp
  have hlt := (List.getElem?_eq_some_iff.1 hc).1
  cases hp with
  | nils => simp at hc
  | emp => simp at hc
  | lst _ _ b o' cap f g1 g2 gs gk go gr =>
    refine wp_value (rd := []) hs (x := .pointer (some ⟨b, (o' + n.toNat * sz) + 0, none⟩)) ?_ (.dat _ _ (.ip _ _ _ _ (f n.toNat) (fun j d hj => gk _ _ hc j d hj) (fun j d hj => go _ _ hc j d hj) (fun j d hj => gr _ _ hc j d hj))) hn
    have hb : 0 ≤ n ∧ n < (es.length : Int) := ⟨h0, by omega⟩
    simp [execOp, ho, hu, hk, Instr.indexAt, asIntOf, run_underlying h1, hb, run_sizeOf_info h3, h4, addr_add]

theorem sound_index (hT : ∀ t i, T t = some i → i.Good P t) {t : TypeId} {x i : Operand} {s : List UInt8} {k : IntKind} {n : Int} {b : UInt8} (ho : o.op = .index t x i) (ht : tyOf T t = .str)
    (hx : evalD σ x = some (.str s)) (hi : evalD σ i = some (.int k n)) (h0 : 0 ≤ n) (hc : s[n.toNat]? = some b) (hn : Next σ o a w c K { val := .dat (.int .u8 b.toNat) }) : o.wp P a w K Q := by
  have h1 := und_str hT ht
  have hk := (evalD_sound he hi).int_inv
  obtain ⟨hp, _⟩ := (evalD_sound he hx).str_inv
  refine wp_value (rd := []) hs (x := .int .u8 b.toNat) ?_ (.dat _ _ (.int _ _)) hn
  have hg : (if 0 ≤ n then (⟨s.toArray⟩ : ByteArray)[n.toNat]? else none) = some b := by
    rw [if_pos h0]
    have hlt := (List.getElem?_eq_some_iff.1 hc).1
    have hlt' : n.toNat < (⟨s.toArray⟩ : ByteArray).size := hlt
    have := (List.getElem?_eq_some_iff.1 hc).2
    rw [getElem?_pos (⟨s.toArray⟩ : ByteArray) n.toNat hlt']
    show some s[n.toNat] = some b
    rw [this]
  simp [execOp, ho, hp, hk, Instr.index, asIntOf, run_underlying h1, hg]

theorem sound_extract {x : Operand} {i : Nat} {vs : List DV} {d : DV} (ho : o.op = .extract x i) (hx : evalO σ x = some (.dat (.tup vs))) (hi : vs[i]? = some d) (hn : Next σ o a w c K { val := .dat d }) : o.wp P a w K Q := by
  have hp := evalO_sound he hx
  generalize hu : a.eval x = u at hp
  cases hp with
  | dat _ _ h =>
    cases h with
    | tup _ us hl hr =>
      have hlt : i < us.size := by rw [hl]; exact (List.getElem?_eq_some_iff.1 hi).1
      exact wp_value (rd := []) hs (x := us.getD i undef) (by simp [execOp, ho, hu, Instr.extract, hlt]) (.dat _ _ (hr i d hi)) hn

theorem sound_field (hT : ∀ t i, T t = some i → i.Good P t) {t : TypeId} {x : Operand} {f : Nat} {fs : List (Nat × Nat × Bool)} {cs : List DV} {off sz : Nat} {ag : Bool} {d : DV} (ho : o.op = .field t x f) (ht : tyOf T t = .struct fs)
    (hx : evalD σ x = some (.agg cs)) (hf : fs[f]? = some (off, sz, ag)) (hd : (ag = true ∧ off + sz ≤ cs.length ∧ d = .agg ((cs.drop off).take sz)) ∨ (ag = false ∧ cs[off]? = some d))
    (hn : Next σ o a w c K { val := .dat d }) : o.wp P a w K Q := by
  obtain ⟨fields, h1, _, h2⟩ := und_struct hT ht
  obtain ⟨fd, h3, h4, h5, ⟨inf, h6, h7⟩, df, h8, h9⟩ := h2 f off sz ag hf
  have hp := evalD_sound he hx
  generalize hu : a.eval x = u at hp
  cases hp with
  | agg _ vs hl hone hr =>
    have hg := run_isAgg_desc h8 w
    rw [h9] at hg
    rcases hd with ⟨rfl, hl2, rfl⟩ | ⟨rfl, hd⟩
    · refine wp_value (rd := []) hs (x := .agg (vs.extract off (off + sz))) ?_ (.dat _ _ (.agg _ _ (by simp; omega) (fun j d hj => ?_) fun j d hj => ?_)) hn
      · simp [execOp, ho, hu, Instr.field, run_underlying h1, h3, asAgg, part, hg, run_sizeOf_info h6, h7, h4]
      all_goals
        simp only [List.getElem?_take, List.getElem?_drop] at hj
        split at hj
        · rename_i hlt
          have hlt2 : off + j < vs.size := by omega
          have : (vs.extract off (off + sz)).getD j undef = vs.getD (off + j) undef := by
            simp [Array.getElem?_extract, show j < min (off + sz) vs.size - off by omega, hlt2]
          rw [this]
          first | exact hone _ d hj | exact hr _ d hj
        · cases hj
    · have hlt : off < vs.size := by rw [hl]; exact (List.getElem?_eq_some_iff.1 hd).1
      refine wp_value (rd := []) hs (x := vs.getD off undef) ?_ (.dat _ _ (hr off d hd)) hn
      simp [execOp, ho, hu, Instr.field, run_underlying h1, h3, asAgg, part, hg, h4, hlt]

theorem sound_makeInterface (hT : ∀ t i, T t = some i → i.Good P t) {t : TypeId} {i : TyI} {x : Operand} {d : DV} (ho : o.op = .makeInterface t x) (hi : T t = some i) (hty : (∃ k, i.ty = .int k) ∨ i.ty = .str ∨ i.ty = .bool)
    (hx : evalO σ x = some (.dat d)) (hn : Next σ o a w c K { val := .dat (.ifc t d) }) : o.wp P a w K Q := by
  obtain ⟨ds, h1, h2⟩ := (hT t i hi).und
  have hc : P.concrete t = true := by
    unfold UndOk at h2
    unfold Program.concrete
    rcases hty with ⟨k, hk⟩ | hk | hk <;> rw [hk] at h2 <;> rw [h1, h2.1]
  have hp := asD_sound (evalO_sound he hx) rfl
  exact wp_value (rd := []) hs (x := .iface t (a.eval x)) (by simp [execOp, ho, run_makeInterface w t _ hc]) (.dat _ _ (.ifc _ _ _ hp)) hn

theorem sound_makeFunc {f : FuncId} {first cap : Array Operand} {l : List PV} (ho : o.op = .makeFunc (.func f) first cap) (hf : first.size = 0) (hl : argsP σ cap.toList = some l) (hn : Next σ o a w c K { val := .clo f l }) : o.wp P a w K Q := by
  have hf' : first = #[] := Array.eq_empty_of_size_eq_zero hf
  obtain ⟨h1, h2⟩ := argsP_sound he hl
  refine wp_value (rd := []) hs (x := .func (.func f) #[] (cap.map a.eval)) (by simp [execOp, ho, Instr.makeFunc, hf']) (.clo _ _ _ (by simp [h1]) fun j v hj => ?_) hn
  obtain ⟨x, h3, h4⟩ := h2 j v hj
  simp only [Array.getElem?_toList] at h3
  simpa [h3] using h4

theorem sound_slice_str (hT : ∀ t i, T t = some i → i.Good P t) {t : TypeId} {x : Operand} {lo hi : Option Operand} {s : List UInt8} {l h : Int} (ho : o.op = .slice t x lo hi none) (ht : tyOf T t = .str) (hx : evalD σ x = some (.str s))
    (hl : wordO σ lo 0 = some l) (hh : wordO σ hi s.length = some h) (hb : 0 ≤ l ∧ l ≤ h ∧ h ≤ s.length) (hn : Next σ o a w c K { val := .dat (.str ((s.take h.toNat).drop l.toNat)) }) : o.wp P a w K Q := by
  have h1 := und_str hT ht
  obtain ⟨hp, hm⟩ := (evalD_sound he hx).str_inv
  have hres : ∀ L H : Nat, L = l.toNat → H = h.toNat → RepD c.K (.str ((s.take h.toNat).drop l.toNat)) (.string ((⟨s.toArray⟩ : ByteArray).extract L H)) := by
    rintro L H rfl rfl
    have : (⟨s.toArray⟩ : ByteArray).extract l.toNat h.toNat = ⟨((s.take h.toNat).drop l.toNat).toArray⟩ := by
      apply ByteArray.ext
      rw [ByteArray.data_extract]
      simp [List.extract_eq_take_drop, List.drop_take]
    rw [this]
    exact .str _ (by simp; omega)
  have hsz : (⟨s.toArray⟩ : ByteArray).size = s.length := rfl
  refine wp_value (rd := []) hs (x := .string ((⟨s.toArray⟩ : ByteArray).extract l.toNat h.toNat)) ?_ (.dat _ _ (hres _ _ rfl rfl)) hn
  have hh' : (match hi.map a.eval with | some v => Instr.sliceBound v s.length .sliceAlen | none => pure s.length : Sem Nat).run P w = .ok h.toNat w := by
    cases hi with
    | none => simp [wordO] at hh; subst hh; simp
    | some y =>
      obtain ⟨k, hk⟩ := wordO_sound he hh
      simp only [Option.map_some, hk]
      exact run_sliceBound w k h s.length _ (by omega) (by omega)
  have hl' : (match lo.map a.eval with | some v => Instr.sliceBound v h.toNat .sliceB | none => pure 0 : Sem Nat).run P w = .ok l.toNat w := by
    cases lo with
    | none => simp [wordO] at hl; subst hl; simp
    | some y =>
      obtain ⟨k, hk⟩ := wordO_sound he hl
      simp only [Option.map_some, hk]
      exact run_sliceBound w k l h.toNat _ (by omega) (by omega)
  have hbd : (Instr.sliceBounds false s.length s.length (lo.map a.eval) (hi.map a.eval) none).run P w = .ok (l.toNat, h.toNat, s.length) w := by
    simp only [Instr.sliceBounds, Sem.run_bind, Sem.run_pure, Result.andThen_ok]
    cases hi with
    | none =>
      simp only [Option.map_none] at hh' ⊢
      rw [Sem.run_bind, hh', Result.andThen_ok]
      simp only [Option.isSome_none, Bool.false_eq_true, if_false]
      cases lo with
      | none => simp only [Option.map_none] at hl' ⊢; rw [Sem.run_bind, hl']; rfl
      | some z => simp only [Option.map_some] at hl' ⊢; rw [Sem.run_bind, hl']; rfl
    | some y =>
      simp only [Option.map_some] at hh' ⊢
      simp only [Bool.false_eq_true, if_false]
      rw [Sem.run_bind, hh', Result.andThen_ok]
      simp only [Option.isSome_none, Bool.false_eq_true, if_false]
      cases lo with
      | none => simp only [Option.map_none] at hl' ⊢; rw [Sem.run_bind, hl']; rfl
      | some z => simp only [Option.map_some] at hl' ⊢; rw [Sem.run_bind, hl']; rfl
  simp only [execOp, ho]
  apply run_v
  simp only [Option.map_none, Instr.sliceAt, Sem.run_bind, run_underlying h1 w, Result.andThen_ok, hp, Instr.slice, Option.isSome_none, Bool.false_eq_true, if_false, hsz, hbd, Sem.run_pure]

end
end Go.Proofs.Ytehhgamkijkjgaa.AM
