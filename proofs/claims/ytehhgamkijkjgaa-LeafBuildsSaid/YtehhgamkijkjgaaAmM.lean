/- The abstract machine (13): regions are sound, in their text's order and in any. -/
import Derived.Test.YtehhgamkijkjgaaAmL
namespace Go.Proofs.Ytehhgamkijkjgaa.AM
open Go.RowKit
set_option linter.unusedVariables false
set_option linter.unusedSimpArgs false
set_option linter.unusedSectionVars false

/-- How a frame's world stands to the one in which it began. -/
structure Fr (fp : Nat → Prop) (w0 : World) (K0 : Cfg) (w : World) (c : Cfg) : Prop where
  os : w.os = w0.os
  tape : w.tape = w0.tape
  output : w.output = w0.output
  size : w0.heap.size ≤ w.heap.size
  blk : ∀ b, b < w0.heap.size → ¬ fp b → w.heap[b]? = w0.heap[b]?
  kn : ∀ b o, b < w0.heap.size → ¬ fp b → c.K b o = K0.K b o
  kle : ∀ b o v, K0.K b o = some v → c.K b o = some v
  mB : ∀ k b, c.M k = some b → w0.heap.size ≤ b ∨ fp b
  oB : ∀ τ x, c.O τ = some x → ∀ g, x.1.ownBlock = some g → w0.heap.size ≤ g ∨ fp g
  le0 : K0.le c
  mN : ∀ k b, c.M k = some b → K0.M k = some b ∨ w0.heap.size ≤ b

theorem Fr.step {fp : Nat → Prop} {w0 : World} {K0 : Cfg} {w w' : World} {c c' : Cfg} {σ : St} {dst : Option Nat} {e : Eff} (h : Fr fp w0 K0 w c) (s : StepF σ dst e w w' c c') : Fr fp w0 K0 w' c' := by
  have nt : ∀ b, b < w0.heap.size → ¬ fp b → ¬ touched e c b := by
    rintro b hb hf (⟨p, _, hm⟩ | ⟨τ, _, x, hx, hg⟩)
    · rcases h.mB _ _ hm with h1 | h1
      · omega
      · exact hf h1
    · rcases h.oB _ _ hx _ hg with h1 | h1
      · omega
      · exact hf h1
  have hsz := h.size
  refine ⟨s.os.trans h.os, s.tape.trans h.tape, s.output.trans h.output, Nat.le_trans h.size s.size, fun b hb hf => ?_, fun b o hb hf => ?_, fun b o v hk => s.le.K _ _ _ (h.kle b o v hk), fun k b hk => ?_, fun τ x hx g hg => ?_, h.le0.trans s.le, fun k b hk => ?_⟩
  · rw [s.blk b (by omega) (nt b hb hf), h.blk b hb hf]
  · rw [s.kn b o (by omega) (nt b hb hf), h.kn b o hb hf]
  · rcases s.mn k b hk with h1 | ⟨_, h1⟩
    · exact h.mB k b h1
    · exact .inl (by omega)
  · rcases s.on τ x hx with h1 | ⟨_, h1⟩
    · exact h.oB τ x h1 g hg
    · rcases h1 g hg with h2 | h2
      · exact .inl (by omega)
      · rcases h2 with ⟨p, _, hm⟩ | ⟨τ', _, x', hx', hg'⟩
        · exact h.mB _ _ hm
        · exact h.oB _ _ hx' _ hg'
  · rcases s.mn k b hk with h1 | ⟨_, h1⟩
    · exact h.mN k b h1
    · exact .inr (by omega)

structure Sim (N : Nat) (fp : Nat → Prop) (w0 : World) (K0 : Cfg) (σ : St) (a : Act) (w : World) (c : Cfg) : Prop where
  hs : HS σ w c
  env : EnvOk σ a c
  fr : Fr fp w0 K0 w c
  nodef : a.defers = []
  size : a.tmps.size = N

/-- Names of this epoch belong to operations that have run. -/
def Fresh (D : Nat → Prop) (ep : Nat) (c : Cfg) : Prop :=
  (∀ k b, c.M k = some b → k.2.2 < ep ∨ (k.2.2 = ep ∧ D k.1)) ∧ ∀ k x, c.O k = some x → k.2.2 < ep ∨ (k.2.2 = ep ∧ D k.1)

section
variable {P : Program} {T : Tab} {N : Nat} {fp : Nat → Prop} {w0 : World} {K0 : Cfg}

theorem Sim.step {σ : St} {a : Act} {w w' : World} {c c' : Cfg} {dst : Option Nat} {e : Eff} {v : Value} (h : Sim N fp w0 K0 σ a w c) (s : StepF σ dst e w w' c c') (hv : RepP c' e.val v) (hb : ∀ d, dst = some d → d < N) :
    Sim N fp w0 K0 (e.app dst σ) (a.put dst v) w' c' := by
  refine ⟨s.hs, fun t x hx => ?_, h.fr.step s, ?_, ?_⟩
  · cases dst with
    | none =>
      obtain ⟨y, h1, h2⟩ := h.env t x hx
      exact ⟨y, h1, h2.mono s.le⟩
    | some d =>
      by_cases q : t = d
      · subst q
        have : (e.app (some t) σ).env t = some e.val := upd_same _ _ _
        rw [this] at hx
        obtain rfl := Option.some.inj hx
        exact ⟨v, by simp [Act.put, h.size, hb t rfl], hv⟩
      · rw [app_env_miss (fun e => q (Option.some.inj e).symm)] at hx
        obtain ⟨y, h1, h2⟩ := h.env t x hx
        exact ⟨y, by simp only [Act.put]; rw [Array.getElem?_setIfInBounds_ne (fun e => q e.symm)]; exact h1, h2.mono s.le⟩
  · cases dst <;> exact h.nodef
  · cases dst with
    | none => exact h.size
    | some d => simp [Act.put, h.size]

theorem stepF_skip {σ : St} {w : World} {c : Cfg} (h : HS σ w c) (dst : Option Nat) : StepF σ dst skipE w w c c := stepF_same h dst unitP []

theorem rep_unit (c : Cfg) : RepP c unitP undef := .dat _ _ (.tup [] #[] rfl (fun j d hj => by simp at hj))

theorem yielded_bool {ops : Array Oper} {σ : St} {a : Act} {c : Cfg} (he : EnvOk σ a c) {j : Nat} {b : Bool} (h : ((ops[j]?).bind (·.dst)).bind σ.env = some (.dat (.bool b))) : yielded ops a.tmps j = some b := by
  simp only [Option.bind_eq_some_iff] at h
  obtain ⟨d, ⟨o, ho, hd⟩, hv⟩ := h
  obtain ⟨x, h1, h2⟩ := he d _ hv
  cases h2 with
  | dat _ _ h =>
    cases h
    simp [yielded, ho, hd, h1]

theorem yielded_undef {ops : Array Oper} {σ : St} {a : Act} {c : Cfg} (he : EnvOk σ a c) {j : Nat} (h : ((ops[j]?).bind (·.dst)).bind σ.env = some (.dat (.tup []))) : yielded ops a.tmps j = none := by
  simp only [Option.bind_eq_some_iff] at h
  obtain ⟨d, ⟨o, ho, hd⟩, hv⟩ := h
  obtain ⟨x, h1, h2⟩ := he d _ hv
  cases h2 with
  | dat _ _ h =>
    cases h
    simp [yielded, ho, hd, h1]

/-- One operation of a region, wanted or not. -/
theorem wpOp_step (hT : ∀ t i, T t = some i → i.Good P t) {ops : Array Oper} {o : Oper} {i : Nat} (ho : ops[i]? = some o) {σ : St} {a : Act} {w : World} {c : Cfg} {K : Eff → Prop} {K' : Act → World → Prop} {Q : Exit → Act → World → Prop}
    (hs : HS σ w c) (he : EnvOk σ a c) (hf : ∀ d, o.dst = some d → FreshAt c d σ.ep) (h : StepK P T ops o σ K)
    (hK : ∀ e, K e → Next σ o a w c K' e) : wpOp P ops Q i K' a w := by
  unfold wpOp
  simp only [ho]
  have skip : K skipE → K' (a.put o.dst undef) w := fun hk => hK _ hk undef w c (rep_unit c) (stepF_skip hs o.dst)
  unfold StepK at h
  unfold Region.wanted
  cases hg : o.guard with
  | none =>
    rw [hg] at h
    simp only [if_true]
    exact .inl (OpK_sound hT hs he hf (OpK_mono hK h))
  | some p =>
    obtain ⟨j, want⟩ := p
    rw [hg] at h
    simp only at h ⊢
    split at h
    · rename_i b hb
      by_cases q : b = want
      · rw [if_pos (by simp [yielded_bool he hb, q])]
        exact .inl (OpK_sound hT hs he hf (OpK_mono hK (h.1 q)))
      · rw [if_neg (by simp [yielded_bool he hb, q])]
        exact skip (h.2 (by cases b <;> cases want <;> simp_all))
    · rename_i hb
      rw [if_neg (by simp [yielded_undef he hb])]
      exact skip h
    · exact h.elim

theorem Fresh.grow {D : Nat → Prop} {ep : Nat} {c c' : Cfg} {σ : St} {dst : Option Nat} {e : Eff} {w w' : World} (h : Fresh D ep c) (hep : σ.ep = ep) (s : StepF σ dst e w w' c c') (hd : dst = none → e.al = [] ∧ e.nw = []) : Fresh (fun s => D s ∨ dst = some s) ep c' := by
  subst hep
  refine ⟨fun k b hk => ?_, fun k x hx => ?_⟩
  · rcases s.mn k b hk with h1 | ⟨⟨i, cs, hi, rfl⟩, _⟩
    · rcases h.1 k b h1 with h2 | h2
      · exact .inl h2
      · exact .inr ⟨h2.1, .inl h2.2⟩
    · cases dst with
      | none => rw [(hd rfl).1] at hi; simp at hi
      | some d => exact .inr ⟨rfl, .inr rfl⟩
  · rcases s.on k x hx with h1 | ⟨⟨i, hi, rfl⟩, _⟩
    · rcases h.2 k x h1 with h2 | h2
      · exact .inl h2
      · exact .inr ⟨h2.1, .inl h2.2⟩
    · cases dst with
      | none => rw [(hd rfl).2] at hi; simp at hi
      | some d => exact .inr ⟨rfl, .inr rfl⟩

theorem Fresh.free {D : Nat → Prop} {ep : Nat} {c : Cfg} (h : Fresh D ep c) {d : Nat} (hd : ¬ D d) : FreshAt c d ep := by
  refine ⟨fun i => ?_, fun k hk => ?_⟩
  rotate_left
  · constructor
    · cases hm : c.M k with
      | none => rfl
      | some b => rcases h.1 _ _ hm with h1 | h1 <;> omega
    · cases hm : c.O k with
      | none => rfl
      | some b => rcases h.2 _ _ hm with h1 | h1 <;> omega
  constructor
  · cases hm : c.M (d, i, ep) with
    | none => rfl
    | some b =>
      rcases h.1 _ _ hm with h1 | h1
      · exact absurd h1 (Nat.lt_irrefl _)
      · exact absurd h1.2 hd
  · cases hm : c.O (d, i, ep) with
    | none => rfl
    | some b =>
      rcases h.2 _ _ hm with h1 | h1
      · exact absurd h1 (Nat.lt_irrefl _)
      · exact absurd h1.2 hd

def isStore : Op → Bool
  | .store .. => true
  | _ => false

/-- Destinations: below N, each once; a store alone has none. -/
def dstOk (N : Nat) : List Oper → Bool
  | [] => true
  | o :: r => (match o.dst with | some d => decide (d < N) && r.all (fun o' => o'.dst != some d) | none => isStore o.op) && dstOk N r

theorem dstOk_cons {N : Nat} {o : Oper} {r : List Oper} (h : dstOk N (o :: r) = true) : (∀ d, o.dst = some d → d < N ∧ ∀ o' ∈ r, o'.dst ≠ some d) ∧ (o.dst = none → isStore o.op = true) ∧ dstOk N r = true := by
  simp only [dstOk, Bool.and_eq_true] at h
  refine ⟨fun d hd => ?_, fun hd => ?_, h.2⟩
  · rw [hd] at h
    simp only [Bool.and_eq_true, decide_eq_true_eq, List.all_eq_true, bne_iff_ne] at h
    exact h.1
  · rw [hd] at h
    exact h.1

/-- A store makes nothing that has a name. -/
theorem OpR_store {o : Oper} {σ : St} {e : Eff} (h : OpR P T o σ e) (hs : isStore o.op = true) : e.al = [] ∧ e.nw = [] := by
  unfold isStore at hs
  split at hs
  · rename_i t x y ho
    unfold OpR OpK opOut at h
    rw [ho] at h
    simp only at h
    split at h
    · split at h
      · simp only [Out.holds] at h
        split at h
        · split at h
          · rename_i e' hl
            unfold storeOut at hl
            split at hl <;> simp at hl
            subst hl
            subst h
            exact ⟨rfl, rfl⟩
          · exact h.elim
        · exact h.elim
      · exact h.elim
    · exact h.elim
  · cases hs

theorem StepR_store {ops : Array Oper} {o : Oper} {σ : St} {e : Eff} (h : StepR P T ops o σ e) (hs : isStore o.op = true) : e.al = [] ∧ e.nw = [] := by
  unfold StepR at h
  split at h
  · exact OpR_store h hs
  · split at h
    · rcases h with ⟨_, h⟩ | ⟨_, rfl⟩
      · exact OpR_store h hs
      · exact ⟨rfl, rfl⟩
    · subst h; exact ⟨rfl, rfl⟩
    · exact h.elim

theorem StepK_both {ops : Array Oper} {o : Oper} {σ : St} {K : Eff → Prop} (h : StepK P T ops o σ K) : StepK P T ops o σ fun e => StepR P T ops o σ e ∧ K e := by
  unfold StepK at h ⊢
  cases hg : o.guard with
  | none => rw [hg] at h; exact OpK_mono (fun e he => ⟨by unfold StepR; rw [hg]; exact he.1, he.2⟩) (OpK_both h)
  | some p =>
    obtain ⟨j, want⟩ := p
    rw [hg] at h
    simp only at h ⊢
    split at h
    · rename_i b hb
      refine ⟨fun q => OpK_mono (fun e he => ⟨?_, he.2⟩) (OpK_both (h.1 q)), fun q => ⟨?_, h.2 q⟩⟩
      · unfold StepR; rw [hg]; simp only [hb]; exact .inl ⟨q, he.1⟩
      · unfold StepR; rw [hg]; simp only [hb]; exact .inr ⟨q, trivial⟩
    · rename_i hb
      refine ⟨?_, h⟩
      unfold StepR; rw [hg]; simp only [hb]
    · exact h

theorem StepK_mono {ops : Array Oper} {o : Oper} {σ : St} {K K' : Eff → Prop} (hk : ∀ e, K e → K' e) (h : StepK P T ops o σ K) : StepK P T ops o σ K' := by
  unfold StepK at h ⊢
  cases hg : o.guard with
  | none => rw [hg] at h; exact OpK_mono hk h
  | some p =>
    obtain ⟨j, want⟩ := p
    rw [hg] at h
    simp only at h ⊢
    split at h
    · exact ⟨fun q => OpK_mono hk (h.1 q), fun q => hk _ (h.2 q)⟩
    · exact hk _ h
    · exact h

theorem StepR_true {ops : Array Oper} {o : Oper} {σ : St} {e : Eff} (h : StepR P T ops o σ e) : StepK P T ops o σ fun e' => e' = e := by
  unfold StepR at h
  unfold StepK
  cases hg : o.guard with
  | none => rw [hg] at h; exact OpR_true h
  | some p =>
    obtain ⟨j, want⟩ := p
    rw [hg] at h
    simp only at h ⊢
    split at h
    · rename_i b hb
      rcases h with ⟨q, h⟩ | ⟨q, h⟩
      · exact ⟨fun _ => OpR_true h, (fun q2 => by rw [q] at q2; cases want <;> cases q2)⟩
      · exact ⟨(fun q2 => by rw [q] at q2; cases want <;> cases q2), fun _ => h.symm⟩
    · exact h.symm
    · exact h.elim

theorem RunK_mono {ops : Array Oper} : ∀ (l : List Oper) (σ : St) {K K' : St → List Eff → Prop}, (∀ σ es, K σ es → K' σ es) → RunK P T ops l σ K → RunK P T ops l σ K'
  | [], _, _, _, hk, h => hk _ _ h
  | o :: l, σ, _, _, hk, h => StepK_mono (fun e he => RunK_mono l _ (fun σ' es h => hk _ _ h) he) h

/-- A region in its text's order. -/
theorem region_lex (hT : ∀ t i, T t = some i → i.Good P t) {ops : Array Oper} {Q : Exit → Act → World → Prop} :
    ∀ (l : List Oper) (k : Nat) (D : Nat → Prop) (σ : St) (a : Act) (w : World) (c : Cfg) (K : St → List Eff → Prop), (∀ j, l[j]? = ops[k + j]?) → dstOk N l = true → (∀ o ∈ l, ∀ d, o.dst = some d → ¬ D d) →
      Sim N fp w0 K0 σ a w c → Fresh D σ.ep c → RunK P T ops l σ K →
      (∀ σ' a' w' c' es, K σ' es → σ'.ep = σ.ep → Sim N fp w0 K0 σ' a' w' c' → Fresh (fun _ => True) σ.ep c' → Q .normal a' w') →
      wpOps P ops Q (List.range' k l.length) a w
  | [], k, D, σ, a, w, c, K, hl, hd, hD, hs, hf, h, hQ => hQ σ a w c [] h rfl hs ⟨fun k b hk => (hf.1 k b hk).imp id fun h => ⟨h.1, trivial⟩, fun k b hk => (hf.2 k b hk).imp id fun h => ⟨h.1, trivial⟩⟩
  | o :: l, k, D, σ, a, w, c, K, hl, hd, hD, hs, hf, h, hQ => by
    have h0 : ops[k]? = some o := by simpa using (hl 0).symm
    obtain ⟨hd1, hd2, hd3⟩ := dstOk_cons hd
    rw [List.length_cons, List.range'_succ, wpOps_cons]
    refine wpOp_step hT h0 hs.hs hs.env (fun d hdd => hf.free (hD o (by simp) d hdd)) (StepK_both h) (fun e he => ?_)
    intro v w' c' hv hst
    have hs' := hs.step hst hv (fun d hdd => (hd1 d hdd).1)
    have hf' := hf.grow rfl hst (fun hn => StepR_store he.1 (hd2 hn))
    exact region_lex hT l (k + 1) _ _ _ w' c' _ (fun j => by have := hl (j + 1); simpa [Nat.add_assoc, Nat.add_comm 1 j] using this) hd3
      (fun o' ho' d hd' => by
        rintro (h1 | h1)
        · exact hD o' (by simp [ho']) d hd' h1
        · exact (hd1 d h1).2 o' ho' hd') hs' hf' he.2 (fun σ' a' w' c' es hk hep hs' hf' => hQ σ' a' w' c' _ hk hep hs' hf')

/-- A walk that comes to something. -/
theorem wp_exists {o : Oper} {a : Act} {w : World} {K : Act → World → Prop} (h : o.wp P a w K (fun _ _ _ => False)) : ∃ a' w', K a' w' := by
  unfold Oper.wp at h
  cases hr : (execOp a.eval o).run P w with
  | ok n w' =>
    rw [hr] at h
    cases n <;> simp only [Oper.upon] at h
    case value v => exact ⟨_, _, h⟩
    case skip => exact ⟨_, _, h⟩
    case defer d => exact ⟨_, _, h⟩
    case enter f args =>
      obtain ⟨e, w'', fr, hR, _⟩ := h []
      cases e with
      | returned v => exact ⟨_, _, hR⟩
      | panicked ch => exact hR.elim
      | outgrown => obtain ⟨_, _, hR⟩ := hR; exact hR.elim
    case row row args =>
      obtain ⟨v, w'', hR, _⟩ := h (default : Frame) []
      exact ⟨_, _, hR⟩
  | halt x w' =>
    rw [hr] at h
    cases x <;> simp only [Oper.upon] at h

theorem wpOp_exists {ops : Array Oper} {i : Nat} {a : Act} {w : World} {K : Act → World → Prop} (h : wpOp P ops (fun _ _ _ => False) i K a w) : ∃ a' w', K a' w' := by
  unfold wpOp at h
  split at h
  · exact ⟨_, _, h⟩
  · split at h
    · rcases h with h | ⟨_, _, _, h⟩
      · exact wp_exists h
      · exact h.elim
    · exact ⟨_, _, h⟩

/-- The effects of a lexical run. -/
theorem run_trace (hT : ∀ t i, T t = some i → i.Good P t) {ops : Array Oper} :
    ∀ (l : List Oper) (k : Nat) (D : Nat → Prop) (σ : St) (a : Act) (w : World) (c : Cfg) (K : St → List Eff → Prop), (∀ j, l[j]? = ops[k + j]?) → dstOk N l = true → (∀ o ∈ l, ∀ d, o.dst = some d → ¬ D d) →
      Sim N fp w0 K0 σ a w c → Fresh D σ.ep c → RunK P T ops l σ K →
      ∃ tr : List (Option Nat × Eff), tr.length = l.length ∧ (∀ (j : Nat) (o : Oper), l[j]? = some o → ∃ e, tr[j]? = some (o.dst, e) ∧ StepR P T ops o (stS tr (fun n => decide (n < j)) σ) e) ∧ K (stS tr (fun _ => true) σ) (tr.map (·.2))
  | [], k, D, σ, a, w, c, K, hl, hd, hD, hs, hf, h => ⟨[], rfl, fun j o hj => by simp at hj, h⟩
  | o :: l, k, D, σ, a, w, c, K, hl, hd, hD, hs, hf, h => by
    have h0 : ops[k]? = some o := by simpa using (hl 0).symm
    obtain ⟨hd1, hd2, hd3⟩ := dstOk_cons hd
    have hw := wpOp_step (Q := fun _ _ _ => False) (K' := fun _ _ => ∃ e, StepR P T ops o σ e ∧ ∃ tr : List (Option Nat × Eff), tr.length = l.length ∧
        (∀ (j : Nat) (o' : Oper), l[j]? = some o' → ∃ e', tr[j]? = some (o'.dst, e') ∧ StepR P T ops o' (stS tr (fun n => decide (n < j)) (e.app o.dst σ)) e') ∧ K (stS tr (fun _ => true) (e.app o.dst σ)) (e :: tr.map (·.2)))
      hT h0 hs.hs hs.env (fun d hdd => hf.free (hD o (by simp) d hdd)) (StepK_both h) (fun e he => by
        intro v w' c' hv hst
        have hs' := hs.step hst hv (fun d hdd => (hd1 d hdd).1)
        have hf' := hf.grow rfl hst (fun hn => StepR_store he.1 (hd2 hn))
        exact ⟨e, he.1, run_trace hT l (k + 1) _ _ _ w' c' _ (fun j => by have := hl (j + 1); simpa [Nat.add_assoc, Nat.add_comm 1 j] using this) hd3
          (fun o' ho' d hd' => by
            rintro (h1 | h1)
            · exact hD o' (by simp [ho']) d hd' h1
            · exact (hd1 d h1).2 o' ho' hd') hs' hf' he.2⟩)
    obtain ⟨_, _, e, he, tr, h1, h2, h3⟩ := wpOp_exists hw
    refine ⟨(o.dst, e) :: tr, by simp [h1], fun j o' hj => ?_, ?_⟩
    · cases j with
      | zero =>
        simp only [List.getElem?_cons_zero, Option.some.injEq] at hj
        subst hj
        refine ⟨e, rfl, ?_⟩
        have : stS ((o.dst, e) :: tr) (fun n => decide (n < 0)) σ = σ := by
          have : ∀ (tr : List (Option Nat × Eff)) (σ : St), stS tr (fun _ => false) σ = σ := by
            intro tr
            induction tr with
            | nil => intro σ; rfl
            | cons p r ih => intro σ; obtain ⟨d, e⟩ := p; rw [stS]; exact ih σ
          rw [show (fun n => decide (n < 0)) = (fun _ : Nat => false) from by funext n; simp]
          exact this _ σ
        rw [this]; exact he
      | succ j =>
        obtain ⟨e', h4, h5⟩ := h2 j o' (by simpa using hj)
        refine ⟨e', by simpa using h4, ?_⟩
        rw [stS]
        simpa using h5
    · rw [stS]
      simpa using h3

end
end Go.Proofs.Ytehhgamkijkjgaa.AM
