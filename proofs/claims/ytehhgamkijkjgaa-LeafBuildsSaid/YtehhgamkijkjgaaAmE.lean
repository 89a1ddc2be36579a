/- The abstract machine (5): what the table of types must say; values, cells, operands. -/
import Derived.Test.YtehhgamkijkjgaaAmD
namespace Go.Proofs.Ytehhgamkijkjgaa.AM
open Go.RowKit
set_option linter.unusedVariables false
set_option linter.unusedSimpArgs false

def isAggDesc : TypeDesc → Bool
  | .struct _ | .array _ _ => true
  | _ => false

def UndOk (P : Program) (i : TyI) (d : TypeDesc) : Prop :=
  match i.ty with
  | .int k => d = .int k ∧ i.size = 1
  | .bool => d = .bool ∧ i.size = 1
  | .str => d = .string ∧ i.size = 1
  | .slice e sz bytes => d = .slice e ∧ i.size = 1 ∧ 0 < sz ∧ ∃ ie z, P.info? e = some ie ∧ ie.size = sz ∧ ie.bytes = bytes ∧ ie.zero = some z ∧ z.cells.size = sz
  | .struct fs => ∃ fields, d = .struct fields ∧ fs.length = fields.size ∧ ∀ (k : Nat) (off sz : Nat) (ag : Bool), fs[k]? = some (off, sz, ag) →
      ∃ f, fields[k]? = some f ∧ f.offset = off ∧ 0 < sz ∧ (∃ inf, P.info? f.type = some inf ∧ inf.size = sz) ∧ ∃ df, P.underlying f.type = some df ∧ isAggDesc df = ag
  | .iface => (∃ ms, d = .interface ms) ∧ i.size = 1
  | .other => isAggDesc d = false ∧ i.size = 1

/-- '==' on a struct goes cell by cell. -/
def EqOk (P : Program) (t : TypeId) (ks : List EqK) : Prop :=
  P.eqGuardType P.depth t = false ∧ ∀ (K : Known) (w : World) (xs ys : List DV) (vx vy : Array Value) (b : Bool), eqCells ks xs ys = some b → RepD K (.agg xs) (.agg vx) → RepD K (.agg ys) (.agg vy) →
    (Op.equalIn 10000 t (.agg vx) (.agg vy)).run P w = .ok b w

structure TyI.Good (P : Program) (t : TypeId) (i : TyI) : Prop where
  info : ∃ inf z, P.info? t = some inf ∧ inf.size = i.size ∧ inf.zero = some z ∧ z.cells.size = i.size ∧ i.zero.length = i.size ∧
    (∀ (j : Nat) (d : DV), i.zero[j]? = some d → (z.cells.getD j undef).oneCell' = true ∧ ∀ K, RepD K d (z.cells.getD j undef)) ∧ (i.isAgg = true → ∃ cs, z = .agg cs) ∧ (∀ ts, z ≠ .tuple ts)
  und : ∃ d, P.underlying t = some d ∧ UndOk P i d
  eq : i.eqf.isEmpty = false → EqOk P t i.eqf

section
variable {P : Program} {T : Tab} (hT : ∀ t i, T t = some i → i.Good P t)

theorem UndOk.agg {i : TyI} {d : TypeDesc} (h : UndOk P i d) : isAggDesc d = i.isAgg := by
  unfold UndOk at h
  unfold TyI.isAgg
  split at h <;> rename_i heq <;> rw [heq]
  · rw [h.1]; rfl
  · rw [h.1]; rfl
  · rw [h.1]; rfl
  · rw [h.1]; rfl
  · obtain ⟨_, rfl, _⟩ := h; rfl
  · obtain ⟨⟨_, rfl⟩, _⟩ := h; rfl
  · exact h.1

theorem run_isAgg_desc {t : TypeId} {d : TypeDesc} (h : P.underlying t = some d) (w : World) : (isAgg t).run P w = .ok (isAggDesc d) w := by
  unfold isAgg
  rw [Sem.run_bind, run_underlying h w]
  cases d <;> rfl

theorem TyI.Good.runAgg {t : TypeId} {i : TyI} (g : i.Good P t) (w : World) : (_root_.Go.isAgg t).run P w = .ok i.isAgg w := by
  obtain ⟨d, h1, h2⟩ := g.und
  rw [run_isAgg_desc h1 w, h2.agg]

theorem run_sizeOf_info {t : TypeId} {inf : TypeInfo} (h : P.info? t = some inf) (w : World) : (sizeOf t).run P w = .ok inf.size w := by
  simp [sizeOf, typeInfo, h]

theorem TyI.Good.runSize {t : TypeId} {i : TyI} (g : i.Good P t) (w : World) : (_root_.Go.sizeOf t).run P w = .ok i.size w := by
  obtain ⟨inf, z, h1, h2, _⟩ := g.info
  rw [run_sizeOf_info h1 w, h2]

theorem run_loadVar_aggL (w : World) (t : TypeId) (a : Addr) (L : List Value) (hagg : (isAgg t).run P w = .ok true w) (hsz : (sizeOf t).run P w = .ok L.length w)
    (h : ∀ (j : Nat) (v : Value), L[j]? = some v → w.cell? (a.add j) = some v) : (loadVar t a).run P w = .ok (.agg L.toArray) w := by
  simp [loadVar, hagg, hsz, run_loadCells_list w a L h]

theorem run_loadVar_oneL (w : World) (t : TypeId) (a : Addr) (v : Value) (hagg : (isAgg t).run P w = .ok false w) (h : w.cell? a = some v) : (loadVar t a).run P w = .ok v w := by
  simp [loadVar, hagg, h]

/-! ### Values -/

theorem asD_sound {c : Cfg} {v : PV} {x : Value} {d : DV} (h : RepP c v x) (e : asD v = some d) : RepD c.K d x := by
  cases h with
  | dat d' x h => simp [asD] at e; subst e; exact h
  | acc τ sz es x t ho h => simp [asD] at e; subst e; exact h
  | _ => simp [asD] at e

theorem oneD_sound {K : Known} {d : DV} {x : Value} (h : RepD K d x) (e : oneD d = true) : x.oneCell' = true := by
  cases h <;> first | rfl | (simp [oneD] at e; done) | exact e

theorem oneP_sound {c : Cfg} {v : PV} {x : Value} (h : RepP c v x) (e : oneP v = true) : x.oneCell' = true := by
  cases h with
  | dat d x h => exact oneD_sound h e
  | acc τ sz es x t ho h => exact oneD_sound h rfl
  | ptr => rfl
  | clo => rfl
  | mix => simp [oneP] at e

theorem cells_one {x : Value} (h : x.oneCell' = true) : x.cells = #[x] := by
  cases x <;> first | rfl | (simp [Value.oneCell'] at h)

theorem getD_of_some {vs : Array Value} {j : Nat} {x d : Value} (h : vs[j]? = some x) : vs.getD j d = x := by simp [h]

theorem some_of_lt {vs : Array Value} {j : Nat} (d : Value) (h : j < vs.size) : vs[j]? = some (vs.getD j d) := by simp [h]

theorem cellsT_sound {c : Cfg} {i : TyI} {v : PV} {x : Value} {cs : List PV} (h : RepP c v x) (e : cellsT i v = some cs) :
    x.cells.size = i.size ∧ cs.length = i.size ∧ ∀ (j : Nat) (p : PV), cs[j]? = some p → ∃ y, x.cells[j]? = some y ∧ y.oneCell' = true ∧ RepP c p y := by
  unfold cellsT at e
  split at e
  · split at e
    · rename_i ds
      split at e <;> simp at e
      subst e
      rename_i hl
      cases h with
      | dat _ _ h =>
        cases h with
        | agg _ vs hs ho hr =>
          refine ⟨hs.trans hl, by simpa using hl, fun j p hp => ?_⟩
          simp only [List.getElem?_map, Option.map_eq_some_iff] at hp
          obtain ⟨d, hd, rfl⟩ := hp
          have hj : j < vs.size := by rw [hs]; exact (List.getElem?_eq_some_iff.1 hd).1
          exact ⟨_, some_of_lt undef hj, ho j d hd, .dat _ _ (hr j d hd)⟩
    · rename_i ds
      split at e <;> simp at e
      subst e
      rename_i hl
      cases h with
      | mix _ vs hs ho hr =>
        refine ⟨hs.trans hl, hl, fun j p hp => ?_⟩
        have hj : j < vs.size := by rw [hs]; exact (List.getElem?_eq_some_iff.1 hp).1
        exact ⟨_, some_of_lt undef hj, ho j p hp, hr j p hp⟩
    · simp at e
  · split at e <;> try (simp at e; done)
    split at e <;> simp at e
    subst e
    rename_i h1 h2
    have ho := oneP_sound h h1
    rw [cells_one ho]
    refine ⟨by simp [h2], by simp [h2], fun j p hp => ?_⟩
    cases j with
    | zero => simp at hp; subst hp; exact ⟨x, rfl, ho, h⟩
    | succ j => simp at hp

theorem allD_sound : ∀ {cs : List PV} {ds : List DV}, allD cs = some ds → ds.length = cs.length ∧ ∀ (j : Nat) (d : DV), ds[j]? = some d → ∃ v, cs[j]? = some v ∧ asD v = some d
  | [], ds, h => by simp [allD] at h; subst h; simp
  | v :: r, ds, h => by
    simp only [allD] at h
    split at h <;> simp at h
    rename_i d l h1 h2
    subst h
    obtain ⟨h3, h4⟩ := allD_sound h2
    refine ⟨by simp [h3], fun j d' hj => ?_⟩
    cases j with
    | zero => simp at hj; subst hj; exact ⟨v, rfl, h1⟩
    | succ j => simpa using h4 j d' (by simpa using hj)

theorem collect_sound {c : Cfg} {cs : List PV} {vs : Array Value} (hs : vs.size = cs.length) (h : ∀ (j : Nat) (p : PV), cs[j]? = some p → (vs.getD j undef).oneCell' = true ∧ RepP c p (vs.getD j undef)) :
    RepP c (collect cs) (.agg vs) := by
  unfold collect
  split
  · rename_i ds hd
    obtain ⟨h1, h2⟩ := allD_sound hd
    refine .dat _ _ (.agg _ _ (by rw [hs, h1]) (fun j d hj => ?_) fun j d hj => ?_)
    · obtain ⟨v, h3, h4⟩ := h2 j d hj
      exact (h j v h3).1
    · obtain ⟨v, h3, h4⟩ := h2 j d hj
      exact asD_sound (h j v h3).2 h4
  · exact .mix _ _ hs (fun j p hp => (h j p hp).1) fun j p hp => (h j p hp).2

theorem norm1_sound {K : Known} {d : DV} {x : Value} (h : RepD K d x) : RepD K (norm1 d) x := by
  cases h <;> first | exact .nils _ | (simp only [norm1]; constructor <;> assumption)

theorem normD_sound {K : Known} {d : DV} {x : Value} (h : RepD K d x) : RepD K (normD d) x := by
  cases h with
  | agg cs vs hl ho hr =>
    refine .agg _ _ (by simp [hl]) (fun j d hj => ?_) fun j d hj => ?_
    · simp only [List.getElem?_map, Option.map_eq_some_iff] at hj
      obtain ⟨d', h1, rfl⟩ := hj
      exact ho j d' h1
    · simp only [List.getElem?_map, Option.map_eq_some_iff] at hj
      obtain ⟨d', h1, rfl⟩ := hj
      exact norm1_sound (hr j d' h1)
  | nil => exact .nils _
  | _ => simp only [normD]; constructor <;> assumption

theorem constD_sound {K : Known} {v : Value} {d : DV} (h : constD v = some d) : RepD K d v := by
  unfold constD at h
  split at h <;> simp at h
  · subst h; exact .int _ _
  · subst h; exact .bool _
  · rename_i s
    obtain ⟨h1, rfl⟩ := h
    have : s = ⟨s.data.toList.toArray⟩ := by cases s; simp
    rw [this]
    exact .str _ (by simpa using h1)
  · subst h; exact .nilI
  · subst h; exact .nil _
  · subst h; exact .raw _
  · subst h; exact .raw _
  · subst h; exact .raw _

/-- What is known of the temporaries holds. -/
def EnvOk (σ : St) (a : Act) (c : Cfg) : Prop := ∀ t v, σ.env t = some v → ∃ x, a.tmps[t]? = some x ∧ RepP c v x

theorem evalO_sound {σ : St} {a : Act} {c : Cfg} (he : EnvOk σ a c) {x : Operand} {v : PV} (h : evalO σ x = some v) : RepP c v (a.eval x) := by
  cases x with
  | tmp t =>
    obtain ⟨y, h1, h2⟩ := he t v h
    simp [Act.eval, h1]
    exact h2
  | const u =>
    simp only [evalO, Option.map_eq_some_iff] at h
    obtain ⟨d, h1, rfl⟩ := h
    exact .dat _ _ (constD_sound h1)
  | func f =>
    simp [evalO] at h
    subst h
    exact .clo f [] #[] rfl (fun j v hj => by simp at hj)
  | global g => simp [evalO] at h

theorem evalD_sound {σ : St} {a : Act} {c : Cfg} (he : EnvOk σ a c) {x : Operand} {d : DV} (h : evalD σ x = some d) : RepD c.K d (a.eval x) := by
  unfold evalD at h
  simp only [Option.bind_eq_some_iff] at h
  obtain ⟨v, h1, h2⟩ := h
  exact asD_sound (evalO_sound he h1) h2

theorem argsP_sound {σ : St} {a : Act} {c : Cfg} (he : EnvOk σ a c) : ∀ {xs : List Operand} {vs : List PV}, argsP σ xs = some vs →
    vs.length = xs.length ∧ ∀ (j : Nat) (v : PV), vs[j]? = some v → ∃ x, xs[j]? = some x ∧ RepP c v (a.eval x)
  | [], vs, h => by simp [argsP] at h; subst h; simp
  | x :: r, vs, h => by
    simp only [argsP] at h
    split at h <;> simp at h
    rename_i v l h1 h2
    subst h
    obtain ⟨h3, h4⟩ := argsP_sound he h2
    refine ⟨by simp [h3], fun j d' hj => ?_⟩
    cases j with
    | zero => simp at hj; subst hj; exact ⟨x, rfl, evalO_sound he h1⟩
    | succ j => simpa using h4 j d' (by simpa using hj)

theorem wordO_sound {σ : St} {a : Act} {c : Cfg} (he : EnvOk σ a c) {x : Operand} {d n : Int} (h : wordO σ (some x) d = some n) : ∃ k, a.eval x = .int k n := by
  unfold wordO at h
  split at h
  · rename_i heq; cases heq
  · rename_i y _ heq
    obtain rfl := Option.some.inj heq
    split at h <;> simp at h
    subst h
    rename_i k n hd
    have := evalD_sound he hd
    generalize a.eval x = u at this ⊢
    cases this
    exact ⟨k, rfl⟩

end
end Go.Proofs.Ytehhgamkijkjgaa.AM
