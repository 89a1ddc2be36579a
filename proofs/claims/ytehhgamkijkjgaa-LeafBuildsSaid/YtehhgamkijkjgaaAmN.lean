/- The abstract machine (14): a region in any order. -/
import Derived.Test.YtehhgamkijkjgaaAmM
namespace Go.Proofs.Ytehhgamkijkjgaa.AM
open Go.RowKit
set_option linter.unusedVariables false
set_option linter.unusedSimpArgs false
set_option linter.unusedSectionVars false

theorem bits_spec (acc : List Nat) : ∀ (es : List Edge) (i : Nat), (bits acc es).testBit i = true → ∃ e ∈ es, Region.binds .any e = true ∧ (e.on = i ∨ (acc.getD e.on 0).testBit i = true)
  | [], i, h => by simp [bits] at h
  | e :: r, i, h => by
    unfold bits at h
    split at h
    · rename_i hb
      rw [Nat.testBit_or, Nat.testBit_or, Nat.testBit_two_pow, Bool.or_eq_true, Bool.or_eq_true] at h
      rcases h with (h | h) | h
      · exact ⟨e, by simp, hb, .inl (by simpa using h)⟩
      · exact ⟨e, by simp, hb, .inr h⟩
      · obtain ⟨e', h1, h2⟩ := bits_spec acc r i h
        exact ⟨e', by simp [h1], h2⟩
    · obtain ⟨e', h1, h2⟩ := bits_spec acc r i h
      exact ⟨e', by simp [h1], h2⟩

theorem befs_spec : ∀ (l : List Oper) (acc : List Nat) (j : Nat), (∀ i, i < acc.length → (befs l acc).getD i 0 = acc.getD i 0) ∧
    ∀ o, l[j]? = some o → ∃ acc', (∀ i, i < acc'.length → acc'.getD i 0 = (befs l acc).getD i 0) ∧ acc'.length = acc.length + j ∧ (befs l acc).getD (acc.length + j) 0 = bits acc' o.after.toList
  | [], acc, j => ⟨fun _ _ => rfl, fun o h => by simp at h⟩
  | o :: r, acc, j => by
    rw [befs]
    refine ⟨fun i hi => ?_, fun o' ho => ?_⟩
    · rw [(befs_spec r (acc ++ [bits acc o.after.toList]) 0).1 i (by simp; omega)]
      simp [List.getD, List.getElem?_append_left hi]
    · cases j with
      | zero =>
        simp only [List.getElem?_cons_zero, Option.some.injEq] at ho
        subst ho
        refine ⟨acc, fun i hi => ?_, rfl, ?_⟩
        · rw [(befs_spec r (acc ++ [bits acc o.after.toList]) 0).1 i (by simp; omega)]
          simp [List.getD, List.getElem?_append_left hi]
        · rw [(befs_spec r (acc ++ [bits acc o.after.toList]) 0).1 _ (by simp)]
          simp [List.getD]
      | succ j =>
        obtain ⟨acc', h1, h2, h3⟩ := (befs_spec r (acc ++ [bits acc o.after.toList]) j).2 o' (by simpa using ho)
        refine ⟨acc', h1, by rw [h2]; simp; omega, ?_⟩
        rw [← h3]
        congr 1
        simp; omega

theorem fwdOk_spec : ∀ (l : List Oper) (n j : Nat) (o : Oper), fwdOk l n = true → l[j]? = some o → ∀ e ∈ o.after, Region.binds .any e = true → e.on < n + j
  | [], _, _, _, _, h => by simp at h
  | o :: r, n, 0, o', h, hj => by
    simp only [List.getElem?_cons_zero, Option.some.injEq] at hj
    subst hj
    simp only [fwdOk, Bool.and_eq_true, List.all_eq_true] at h
    intro e he hb
    have := h.1 e (by simpa using he)
    simpa [hb] using this
  | o :: r, n, j + 1, o', h, hj => by
    simp only [fwdOk, Bool.and_eq_true] at h
    intro e he hb
    have := fwdOk_spec r (n + 1) j o' h.2 (by simpa using hj) e he hb
    omega

/-- S holds what its members wait for. -/
def Closed (ops : Array Oper) (S : Nat → Bool) : Prop := ∀ j o, ops[j]? = some o → S j = true → ∀ e ∈ o.after, Region.binds .any e = true → S e.on = true

theorem Closed.before {ops : Array Oper} {S : Nat → Bool} (hc : Closed ops S) (hfw : fwdOk ops.toList 0 = true) : ∀ (j i : Nat), j < ops.size → ((befs ops.toList []).getD j 0).testBit i = true → S j = true → S i = true := by
  intro j
  induction j using Nat.strongRecOn with
  | _ j ih =>
    intro i hj hb hS
    have ho : ops.toList[j]? = some ops[j] := by simp [hj]
    obtain ⟨acc', h1, h2, h3⟩ := (befs_spec ops.toList [] j).2 ops[j] ho
    simp only [List.length_nil, Nat.zero_add] at h2 h3
    rw [h3] at hb
    obtain ⟨e, he, hbd, hor⟩ := bits_spec acc' _ i hb
    have hSe := hc j ops[j] (by simp [hj]) hS e (by simpa using he) hbd
    rcases hor with rfl | hor
    · exact hSe
    · have hlt := fwdOk_spec ops.toList 0 j ops[j] hfw ho e (by simpa using he) hbd
      rw [h1 _ (by rw [h2]; omega)] at hor
      exact ih e.on (by omega) i (by omega) hor hSe

theorem regOk_spec {ops : Array Oper} {es : List Eff} (h : regOk ops es = true) : fwdOk ops.toList 0 = true ∧ ∀ i j, i < j → j < ops.size → ((befs ops.toList []).getD j 0).testBit i = true ∨
    ∃ oi oj ei ej, ops[i]? = some oi ∧ ops[j]? = some oj ∧ es[i]? = some ei ∧ es[j]? = some ej ∧ apartE ops oi oj ei ej = true := by
  unfold regOk at h
  simp only [Bool.and_eq_true, List.all_eq_true, List.mem_range, Bool.or_eq_true] at h
  refine ⟨h.1, fun i j hij hj => ?_⟩
  rcases h.2 j hj i hij with h | h
  · exact .inl h
  · right
    split at h
    · rename_i oi oj ei ej h1 h2 h3 h4
      exact ⟨oi, oj, ei, ej, h1, h2, h3, h4, h⟩
    · cases h

theorem apartE_spec {ops : Array Oper} {oi oj : Oper} {ei ej : Eff} (h : apartE ops oi oj ei ej = true) :
    (∀ d, oi.dst = some d → d ∉ oj.looksAt ops) ∧ (∀ d, oi.dst = some d → oj.dst ≠ some d) ∧ (∀ d, oj.dst = some d → d ∉ oi.looksAt ops) ∧
      (∀ x, x ∈ ei.wrS oi.dst → x ∉ ej.rdS ∧ x ∉ ej.wrS oj.dst) ∧ (∀ x, x ∈ ei.rdS → x ∉ ej.wrS oj.dst) ∧ ∀ x, x ∈ ei.tgS oi.dst → x ∉ ej.tgS oj.dst := by
  unfold apartE at h
  simp only [Bool.and_eq_true] at h
  obtain ⟨⟨⟨h1, h2⟩, h3⟩, h4⟩ := h
  obtain ⟨a1, a2, a3⟩ := Oper.apart_spec h1
  refine ⟨a1, a2, a3, fun x hx => ?_, disj_spec h3, disj_spec h4⟩
  have := disj_spec h2 x hx
  simp only [List.mem_append, not_or] at this
  exact this

section
variable {P : Program} {T : Tab} {N : Nat} {fp : Nat → Prop} {w0 : World} {K0 : Cfg}

theorem evalO_env {σ σ' : St} {x : Operand} (h : ∀ t, x = .tmp t → σ.env t = σ'.env t) : evalO σ x = evalO σ' x := by
  cases x with
  | tmp t => exact h t rfl
  | _ => rfl

theorem StepR_congr {ops : Array Oper} {o : Oper} {σ σ' : St} {e : Eff} (hep : σ.ep = σ'.ep) (h : ∀ t ∈ o.looksAt ops, σ.env t = σ'.env t) (hm : ∀ k ∈ e.rd, σ.mem k = σ'.mem k) (hl : ∀ τ ∈ e.use, σ.live τ = true → σ'.live τ = true)
    (hr : StepR P T ops o σ e) : StepR P T ops o σ' e := by
  have hop : ∀ x ∈ o.op.operands.toList, evalO σ x = evalO σ' x := fun x hx => evalO_env fun t ht => h t (List.mem_append_left _ (List.mem_filterMap.2 ⟨x, hx, by subst ht; rfl⟩))
  unfold StepR at hr ⊢
  cases hg : o.guard with
  | none => rw [hg] at hr; exact OpR_congr hep hop hm hl hr
  | some p =>
    obtain ⟨j, want⟩ := p
    rw [hg] at hr
    simp only at hr ⊢
    have henv : ((ops[j]?).bind (·.dst)).bind σ.env = ((ops[j]?).bind (·.dst)).bind σ'.env := by
      cases hd : (ops[j]?).bind (·.dst) with
      | none => rfl
      | some d => exact h d (List.mem_append_right _ (by simp [hg, hd]))
    rw [← henv]
    split at hr
    · rcases hr with ⟨q, hr⟩ | hr
      · exact .inl ⟨q, OpR_congr hep hop hm hl hr⟩
      · exact .inr hr
    · exact hr
    · exact hr.elim

/-- The lexical trace of a region and its check. -/
structure Trace (P : Program) (T : Tab) (ops : Array Oper) (σ : St) (tr : List (Option Nat × Eff)) : Prop where
  len : tr.length = ops.size
  step : ∀ (j : Nat) (o : Oper), ops[j]? = some o → ∃ e, tr[j]? = some (o.dst, e) ∧ StepR P T ops o (stS tr (fun n => decide (n < j)) σ) e
  ok : regOk ops (tr.map (·.2)) = true

theorem Trace.pair {ops : Array Oper} {σ : St} {tr : List (Option Nat × Eff)} (h : Trace P T ops σ tr) {i j : Nat} (hij : i < j) {di dj : Option Nat} {ei ej : Eff} (hi : tr[i]? = some (di, ei)) (hj : tr[j]? = some (dj, ej)) :
    ((befs ops.toList []).getD j 0).testBit i = true ∨ ∃ oi oj, ops[i]? = some oi ∧ ops[j]? = some oj ∧ oi.dst = di ∧ oj.dst = dj ∧ apartE ops oi oj ei ej = true := by
  have hlt : j < ops.size := by rw [← h.len]; exact (List.getElem?_eq_some_iff.1 hj).1
  rcases (regOk_spec h.ok).2 i j hij hlt with h1 | ⟨oi, oj, ei', ej', h1, h2, h3, h4, h5⟩
  · exact .inl h1
  · right
    simp only [List.getElem?_map, hi, hj, Option.map_some, Option.some.injEq] at h3 h4
    subst h3; subst h4
    obtain ⟨e1, k1, _⟩ := h.step i oi h1
    obtain ⟨e2, k2, _⟩ := h.step j oj h2
    rw [hi] at k1; rw [hj] at k2
    simp only [Option.some.injEq, Prod.mk.injEq] at k1 k2
    exact ⟨oi, oj, h1, h2, k1.1.symm, k2.1.symm, h5⟩

/-- An operation that may come up does in any order what it does in the text's. -/
theorem Trace.at_ {ops : Array Oper} {σ : St} {tr : List (Option Nat × Eff)} (h : Trace P T ops σ tr) {S : Nat → Bool} (hc : Closed ops S) {i : Nat} {o : Oper} (hi : ops[i]? = some o) (hS : S i = false)
    (hr : ∀ e ∈ o.after, Region.binds .any e = true → S e.on = true) :
    ∃ e, tr[i]? = some (o.dst, e) ∧ StepR P T ops o (stS tr S σ) e ∧ e.app o.dst (stS tr S σ) = stS tr (fun n => if n = i then true else S n) σ := by
  obtain ⟨e, he, hst⟩ := h.step i o hi
  have hfw := (regOk_spec h.ok).1
  have hlt : i < ops.size := (Array.getElem?_eq_some_iff.1 hi).1
  -- what comes before i has run
  have hpre : ∀ j, ((befs ops.toList []).getD i 0).testBit j = true → S j = true := by
    intro j hj
    have hc' : Closed ops (fun n => if n = i then true else S n) := by
      intro k ok hk hSk e' he' hb'
      by_cases q : k = i
      · subst q
        rw [hi] at hk
        obtain rfl := Option.some.inj hk
        have := hr e' he' hb'
        simp only; split <;> simp_all
      · simp only [q, if_false] at hSk
        have := hc k ok hk hSk e' he' hb'
        simp only; split <;> simp_all
    have := hc'.before hfw i j hlt hj (by simp)
    by_cases q : j = i
    · subst q
      -- an operation does not come before itself
      have hbf : ∀ (n m : Nat), n < ops.size → ((befs ops.toList []).getD n 0).testBit m = true → m < n := by
        intro n
        induction n using Nat.strongRecOn with
        | _ n ih =>
          intro m hn hb
          have ho : ops.toList[n]? = some ops[n] := by simp [hn]
          obtain ⟨acc', h1, h2, h3⟩ := (befs_spec ops.toList [] n).2 ops[n] ho
          simp only [List.length_nil, Nat.zero_add] at h2 h3
          rw [h3] at hb
          obtain ⟨e', he', hbd, hor⟩ := bits_spec acc' _ m hb
          have hl := fwdOk_spec ops.toList 0 n ops[n] hfw ho e' (by simpa using he') hbd
          rcases hor with rfl | hor
          · omega
          · rw [h1 _ (by rw [h2]; omega)] at hor
            have := ih e'.on (by omega) m (by omega) hor
            omega
      exact absurd (hbf j j hlt hj) (Nat.lt_irrefl _)
    · simpa [q] using this
  have hpost : ∀ j, j < ops.size → S j = true → ((befs ops.toList []).getD j 0).testBit i = true → False := by
    intro j hj hSj hb
    have := hc.before hfw j i hj hb hSj
    rw [hS] at this; cases this
  -- what touches the same things is on the side on which it is in the text
  have side : ∀ (j : Nat) (d' : Option Nat) (e' : Eff), tr[j]? = some (d', e') → (∀ oj, ops[j]? = some oj → oj.dst = d' → (j < i → apartE ops oj o e' e = true → False) ∧ (i < j → apartE ops o oj e e' = true → False)) → j ≠ i → S j = decide (j < i) := by
    intro j d' e' hj hno hne
    have hjl : j < ops.size := by rw [← h.len]; exact (List.getElem?_eq_some_iff.1 hj).1
    rcases Nat.lt_or_gt_of_ne hne with hlt' | hgt
    · rw [decide_eq_true hlt']
      rcases h.pair hlt' hj he with h1 | ⟨oj, oi, h1, h2, h3, h4, h5⟩
      · exact hpre j h1
      · rw [hi] at h2
        obtain rfl := Option.some.inj h2
        exact ((hno oj h1 h3).1 hlt' h5).elim
    · rw [decide_eq_false (by omega)]
      cases hSj : S j with
      | false => rfl
      | true =>
        rcases h.pair hgt he hj with h1 | ⟨oi, oj, h1, h2, h3, h4, h5⟩
        · exact (hpost j hjl hSj h1).elim
        · rw [hi] at h1
          obtain rfl := Option.some.inj h1
          exact ((hno oj h2 h4).2 hgt h5).elim
  refine ⟨e, he, ?_, ?_⟩
  · refine StepR_congr (by rw [stS_ep, stS_ep]) (fun t ht => ?_) (fun k hk => ?_) (fun τ hτ hl => ?_) hst
    · refine (stS_env tr _ _ σ σ t rfl (fun j e' hj => ?_)).symm
      by_cases q : j = i
      · subst q; rw [hS]; simp
      · exact side j _ e' hj (fun oj ho hd => ⟨fun _ hap => (apartE_spec hap).1 t hd ht, fun _ hap => (apartE_spec hap).2.2.1 t hd ht⟩) q
    · refine (stS_mem tr _ _ σ σ k rfl rfl (fun j d' e' hj hw => ?_)).symm
      by_cases q : j = i
      · subst q; rw [hS]; simp
      · exact side j _ e' hj (fun oj ho hd => ⟨fun _ hap => ((apartE_spec hap).2.2.2.1 k.1 (by rw [hd]; exact hw)).1 (List.mem_map.2 ⟨k, hk, rfl⟩), fun _ hap => (apartE_spec hap).2.2.2.2.1 k.1 (List.mem_map.2 ⟨k, hk, rfl⟩) (by rw [hd]; exact hw)⟩) q
    · rw [stS_live tr S (fun n => decide (n < i)) σ σ τ rfl rfl (fun j d' e' hj hw => ?_)]
      · exact hl
      · by_cases q : j = i
        · subst q; rw [hS]; simp
        · have hin : τ.1 ∈ e.tgS o.dst := by unfold Eff.tgS; exact List.mem_append_left _ (List.mem_map.2 ⟨τ, hτ, rfl⟩)
          exact side j _ e' hj (fun oj ho hd => ⟨fun _ hap => (apartE_spec hap).2.2.2.2.2 τ.1 (by rw [hd]; exact hw) hin, fun _ hap => (apartE_spec hap).2.2.2.2.2 τ.1 hin (by rw [hd]; exact hw)⟩) q
  · refine stS_add tr S σ i o.dst e he hS (fun j d' e' hij hj hSj => ?_)
    have hjl : j < ops.size := by rw [← h.len]; exact (List.getElem?_eq_some_iff.1 hj).1
    rcases h.pair hij he hj with h1 | ⟨oi, oj, h1, h2, h3, h4, h5⟩
    · exact (hpost j hjl hSj h1).elim
    · rw [hi] at h1
      obtain rfl := Option.some.inj h1
      obtain ⟨_, a2, _, a4, _, a6⟩ := apartE_spec h5
      subst h4
      exact ⟨a2, fun x hx => (a4 x hx).2, a6⟩

theorem countP_setL : ∀ (l : List Bool) (i : Nat), l[i]? = some false → (l.set i true).countP (fun b => !b) + 1 = l.countP (fun b => !b)
  | [], i, h => by simp at h
  | a :: r, 0, h => by simp at h; subst h; simp
  | a :: r, i + 1, h => by
    have := countP_setL r i (by simpa using h)
    simp only [List.set_cons_succ, List.countP_cons]
    omega

theorem countP_set {l : Array Bool} {i : Nat} (h : l[i]? = some false) : ((l.setIfInBounds i true).toList.countP (fun b => !b)) + 1 = l.toList.countP (fun b => !b) := by
  rw [Array.toList_setIfInBounds]
  exact countP_setL _ _ (by simpa using h)

/-- **A region in any order.** -/
theorem region_any (hT : ∀ t i, T t = some i → i.Good P t) {ops : Array Oper} {Q : Exit → Act → World → Prop} {σ : St} {tr : List (Option Nat × Eff)} (h : Trace P T ops σ tr) (hd : dstOk N ops.toList = true)
    (hQ : ∀ a' w' c', Sim N fp w0 K0 (stS tr (fun _ => true) σ) a' w' c' → Fresh (fun _ => True) σ.ep c' → Q .normal a' w') :
    ∀ (fuel : Nat) (listed : Array Bool) (a : Act) (w : World) (c : Cfg), listed.size = ops.size → listed.toList.countP (fun b => !b) = fuel → Closed ops (fun n => listed.getD n false) →
      Sim N fp w0 K0 (stS tr (fun n => listed.getD n false) σ) a w c → Fresh (fun s => ∃ i o, ops[i]? = some o ∧ listed.getD i false = true ∧ o.dst = some s) σ.ep c → wpAny P .any ops Q fuel listed a w := by
  have hfw := (regOk_spec h.ok).1
  have hdst : ∀ (i j : Nat) (oi oj : Oper) (d : Nat), ops[i]? = some oi → ops[j]? = some oj → oi.dst = some d → oj.dst = some d → i = j := by
    have : ∀ (l : List Oper), dstOk N l = true → ∀ (i j : Nat) (oi oj : Oper) (d : Nat), l[i]? = some oi → l[j]? = some oj → oi.dst = some d → oj.dst = some d → i = j := by
      intro l
      induction l with
      | nil => intro _ i j oi oj d hi; simp at hi
      | cons o r ih =>
        intro hok i j oi oj d hi hj hdi hdj
        obtain ⟨h1, _, h3⟩ := dstOk_cons hok
        cases i with
        | zero =>
          cases j with
          | zero => rfl
          | succ j =>
            simp at hi hj; subst hi
            exact absurd hdj ((h1 d hdi).2 oj (List.mem_of_getElem? hj))
        | succ i =>
          cases j with
          | zero =>
            simp at hi hj; subst hj
            exact absurd hdi ((h1 d hdj).2 oi (List.mem_of_getElem? hi))
          | succ j => rw [ih h3 i j oi oj d (by simpa using hi) (by simpa using hj) hdi hdj]
    intro i j oi oj d hi hj
    exact this ops.toList hd i j oi oj d (by simpa using hi) (by simpa using hj)
  have hall : ∀ (listed : Array Bool), listed.size = ops.size → (∀ i, i < ops.size → listed.getD i false = true) → ∀ (c : Cfg), (fun n => listed.getD n false) = (fun n => listed.getD n false) := fun _ _ _ _ => rfl
  have hst_all : ∀ (listed : Array Bool), listed.size = ops.size → (∀ i, i < ops.size → listed.getD i false = true) → stS tr (fun n => listed.getD n false) σ = stS tr (fun _ => true) σ := by
    intro listed hs hi
    have hj : ∀ (j : Nat) (x : Option Nat × Eff), tr[j]? = some x → listed.getD j false = true := fun j x hx => hi j (by rw [← h.len]; exact (List.getElem?_eq_some_iff.1 hx).1)
    exact St.ext' (fun t => stS_env tr _ _ σ σ t rfl (fun j e he => hj j _ he)) (fun k => stS_mem tr _ _ σ σ k rfl rfl (fun j d e he _ => hj j _ he)) (fun k => stS_live tr _ _ σ σ k rfl rfl (fun j d e he _ => hj j _ he)) (by rw [stS_ep, stS_ep])
  -- when nothing is ready, all have run
  have hready : ∀ (listed : Array Bool), listed.size = ops.size → Region.ready .any ops listed = [] → ∀ i, i < ops.size → listed.getD i false = true := by
    intro listed hs hr i
    induction i using Nat.strongRecOn with
    | _ i ih =>
      intro hi
      cases hb : listed.getD i false with
      | true => rfl
      | false =>
        have hmem : i ∈ Region.ready .any ops listed := by
          rw [mem_ready]
          refine ⟨by simpa [hs, hi] using hb, ops[i], by simp [hi], fun e he hbd => ?_⟩
          have := fwdOk_spec ops.toList 0 i ops[i] hfw (by simp [hi]) e he hbd
          exact ih e.on (by omega) (by omega)
        rw [hr] at hmem; cases hmem
  have fin : ∀ (listed : Array Bool) (a : Act) (w : World) (c : Cfg), listed.size = ops.size → (∀ i, i < ops.size → listed.getD i false = true) → Sim N fp w0 K0 (stS tr (fun n => listed.getD n false) σ) a w c →
      Fresh (fun s => ∃ i o, ops[i]? = some o ∧ listed.getD i false = true ∧ o.dst = some s) σ.ep c → Q .normal a w := by
    intro listed a w c hs hi hsim hf
    rw [hst_all listed hs hi] at hsim
    exact hQ a w c hsim ⟨fun k b hk => (hf.1 k b hk).imp id fun h => ⟨h.1, trivial⟩, fun k b hk => (hf.2 k b hk).imp id fun h => ⟨h.1, trivial⟩⟩
  intro fuel
  induction fuel with
  | zero =>
    intro listed a w c hs hcnt hc hsim hf
    have hi : ∀ i, i < ops.size → listed.getD i false = true := by
      intro i hi
      cases hb : listed.getD i false with
      | true => rfl
      | false =>
        have : listed[i]? = some false := by
          have hlt : i < listed.size := by omega
          simp [hlt] at hb ⊢
          exact hb
        have := countP_set this
        omega
    refine ⟨?_, fin listed a w c hs hi hsim hf⟩
    cases hr : Region.ready .any ops listed with
    | nil => rfl
    | cons i r =>
      have hm : i ∈ Region.ready .any ops listed := by rw [hr]; simp
      obtain ⟨h0, o, ho, _⟩ := mem_ready.1 hm
      have hlt := (Array.getElem?_eq_some_iff.1 ho).1
      have := hi i hlt
      simp [hs, hlt] at h0 this
      rw [h0] at this; cases this
  | succ fuel ih =>
    intro listed a w c hs hcnt hc hsim hf
    refine ⟨fun hr => fin listed a w c hs (hready listed hs hr) hsim hf, fun i hi => ?_⟩
    obtain ⟨h0, o, ho, hall⟩ := mem_ready.1 hi
    have hlt := (Array.getElem?_eq_some_iff.1 ho).1
    have hli : listed[i]? = some false := by simp [hs, hlt] at h0 ⊢; exact h0
    have hS : listed.getD i false = false := by simp [hli]
    obtain ⟨e, he, hst, happ⟩ := h.at_ (S := fun n => listed.getD n false) hc ho hS (fun e he hb => hall e he hb)
    have hd2 : o.dst = none → isStore o.op = true := by
      have : ∀ (l : List Oper), dstOk N l = true → ∀ o ∈ l, (o.dst = none → isStore o.op = true) ∧ ∀ d, o.dst = some d → d < N := by
        intro l
        induction l with
        | nil => intro _ o ho; simp at ho
        | cons o' r ih' =>
          intro hok o ho
          obtain ⟨k1, k2, k3⟩ := dstOk_cons hok
          rcases List.mem_cons.1 ho with rfl | ho
          · exact ⟨k2, fun d hd => (k1 d hd).1⟩
          · exact ih' k3 o ho
      exact (this ops.toList hd o (by simpa using Array.mem_of_getElem? ho)).1
    have hdN : ∀ d, o.dst = some d → d < N := by
      have : ∀ (l : List Oper), dstOk N l = true → ∀ o ∈ l, ∀ d, o.dst = some d → d < N := by
        intro l
        induction l with
        | nil => intro _ o ho; simp at ho
        | cons o' r ih' =>
          intro hok o ho
          obtain ⟨k1, k2, k3⟩ := dstOk_cons hok
          rcases List.mem_cons.1 ho with rfl | ho
          · exact fun d hd => (k1 d hd).1
          · exact ih' k3 o ho
      exact this ops.toList hd o (by simpa using Array.mem_of_getElem? ho)
    have hfn : (fun n => (listed.setIfInBounds i true).getD n false) = (fun n => if n = i then true else listed.getD n false) := by
      funext n
      by_cases q : n = i
      · subst q; simp [hs, hlt]
      · simp only [q, if_false]
        exact getD_set_ne false (fun e => q e.symm)
    refine wpOp_step hT ho hsim.hs hsim.env (fun d hdd => ?_) (StepR_true hst) (fun e' he' => ?_)
    · rw [stS_ep]
      exact hf.free (fun ⟨j, oj, hj, hl, hdj⟩ => by
        obtain rfl := hdst i j o oj d ho hj hdd hdj
        rw [hS] at hl; cases hl)
    · subst he'
      intro v w' c' hv hstep
      have hsim' := hsim.step hstep hv hdN
      rw [happ, ← hfn] at hsim'
      have hf' := hf.grow (stS_ep _ _ _) hstep (fun hn => StepR_store hst (hd2 hn))
      refine ih (listed.setIfInBounds i true) _ w' c' (by simp [hs]) (by have := countP_set hli; omega) ?_ hsim' ?_
      · rw [hfn]
        intro k ok hk hSk e' he' hb'
        by_cases q : k = i
        · subst q
          rw [ho] at hk; obtain rfl := Option.some.inj hk
          have := hall e' he' hb'
          simp only; split
          · rfl
          · exact this
        · simp only [q, if_false] at hSk
          have := hc k ok hk hSk e' he' hb'
          simp only; split
          · rfl
          · exact this
      · refine ⟨fun k b hk => (hf'.1 k b hk).imp id fun hh => ⟨hh.1, ?_⟩, fun k b hk => (hf'.2 k b hk).imp id fun hh => ⟨hh.1, ?_⟩⟩
        all_goals
          rcases hh.2 with ⟨j, oj, hj, hl, hdj⟩ | hdj
          · exact ⟨j, oj, hj, getD_set_true hl, hdj⟩
          · exact ⟨i, o, ho, by simp [hs, hlt], hdj⟩

end
end Go.Proofs.Ytehhgamkijkjgaa.AM
