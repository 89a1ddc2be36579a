/- The abstract machine (15): code, functions. -/
import Derived.Test.YtehhgamkijkjgaaAmN
namespace Go.Proofs.Ytehhgamkijkjgaa.AM
open Go.RowKit
set_option linter.unusedVariables false
set_option linter.unusedSimpArgs false
set_option linter.unusedSectionVars false

/-! ### States as lists -/

structure LSt where
  env : List (Nat × PV)
  mem : List (Key × List PV)
  live : List (Key × Bool)
  ep : Nat

def lookE : List (Nat × PV) → Nat → Option PV
  | [], _ => none
  | (k, v) :: r, t => if t = k then some v else lookE r t

def lookM : List (Key × List PV) → Key → Option (List PV)
  | [], _ => none
  | (k, v) :: r, t => if t = k then some v else lookM r t

def lookB : List (Key × Bool) → Key → Bool
  | [], _ => false
  | (k, v) :: r, t => if t = k then v else lookB r t

def LSt.den (s : LSt) : St := { env := lookE s.env, mem := lookM s.mem, live := lookB s.live, ep := s.ep }

def pushM : List (Key × List PV) → List (Key × List PV) → List (Key × List PV)
  | [], m => m
  | p :: r, m => pushM r (p :: m)

def pushB (v : Bool) : List Key → List (Key × Bool) → List (Key × Bool)
  | [], m => m
  | k :: r, m => pushB v r ((k, v) :: m)

def appL (dst : Option Nat) (e : Eff) (s : LSt) : LSt :=
  { env := match dst with | some d => (d, e.val) :: s.env | none => s.env
    mem := pushM e.wr (pushM (e.alKeys (dst.getD 0) s.ep) s.mem)
    live := pushB true (e.nwKeys (dst.getD 0) s.ep) (pushB false e.use s.live)
    ep := s.ep }

theorem lookM_push : ∀ (l m : List (Key × List PV)), lookM (pushM l m) = wrMem l (lookM m)
  | [], _ => rfl
  | (k, cs) :: r, m => by
    rw [pushM, wrMem, lookM_push r]
    congr 1

theorem lookB_push (v : Bool) : ∀ (l : List Key) (m : List (Key × Bool)), lookB (pushB v l m) = setLive v l (lookB m)
  | [], _ => rfl
  | k :: r, m => by
    rw [pushB, setLive, lookB_push v r]
    congr 1

theorem appL_den (dst : Option Nat) (e : Eff) (s : LSt) : (appL dst e s).den = e.app dst s.den := by
  unfold appL LSt.den Eff.app
  simp only [lookM_push, lookB_push]
  cases dst <;> rfl

/-- Less is known. -/
structure LSt.le (s' s : LSt) : Prop where
  env : ∀ t v, lookE s'.env t = some v → lookE s.env t = some v
  mem : ∀ k cs, lookM s'.mem k = some cs → lookM s.mem k = some cs
  live : ∀ k, lookB s'.live k = true → lookB s.live k = true
  ep : s.ep ≤ s'.ep

theorem LSt.le.refl (s : LSt) : s.le s := ⟨fun _ _ h => h, fun _ _ h => h, fun _ h => h, Nat.le_refl _⟩

def RunL (P : Program) (T : Tab) (ops : Array Oper) : List Oper → LSt → (LSt → List Eff → Prop) → Prop
  | [], s, K => K s []
  | o :: l, s, K => StepK P T ops o s.den fun e => RunL P T ops l (appL o.dst e s) fun s' es => K s' (e :: es)

theorem RunL_RunK {P : Program} {T : Tab} {ops : Array Oper} : ∀ (l : List Oper) (s : LSt) (K : LSt → List Eff → Prop), RunL P T ops l s K → RunK P T ops l s.den fun σ es => ∃ s', σ = s'.den ∧ K s' es
  | [], s, K, h => ⟨s, rfl, h⟩
  | o :: l, s, K, h => StepK_mono (fun e he => by
      have := RunL_RunK l _ _ he
      rw [appL_den] at this
      exact this) h

def thenQ (next : LSt → Prop) (Q : Exit → LSt → Prop) : Exit → LSt → Prop
  | .normal, s => next s
  | e, s => Q e s

def blockQ (id : Nat) (Q : Exit → LSt → Prop) : Exit → LSt → Prop
  | .exit id', s => if id' = id then Q .normal s else Q (.exit id') s
  | e, s => Q e s

def noGotoQ (Q : Exit → LSt → Prop) : Exit → LSt → Prop
  | .goto _, _ => False
  | e, s => Q e s

/-- What code does: conditions on each way out. -/
def AWp (P : Program) (T : Tab) (N : Nat) : Code → (Exit → LSt → Prop) → LSt → Prop
  | .skip, Q, s => Q .normal s
  | .label _, Q, s => Q .normal s
  | .region _ ops draw, Q, s => dstOk N ops.toList = true ∧ RunL P T ops ops.toList { s with ep := s.ep + 1 } fun s' es => (draw = true → regOk ops es = true) ∧ Q .normal s'
  | .seq a b, Q, s => AWp P T N a (thenQ (AWp P T N b Q) Q) s
  | .cond c x y, Q, s =>
    match evalO s.den c with
    | some (.dat (.bool b)) => (b = true → AWp P T N x Q s) ∧ (b = false → AWp P T N y Q s)
    | _ => False
  | .block id body, Q, s => AWp P T N body (blockQ id Q) s
  | .scope body, Q, s => AWp P T N body (noGotoQ Q) s
  | .loop body, Q, s => ∃ (I : Nat → LSt → Prop) (n : Nat) (s0 : LSt), s0.le s ∧ I n s0 ∧
      ∀ n s, I n s → AWp P T N body (thenQ (fun s' => ∃ m s'', m < n ∧ s''.le s' ∧ I m s'') Q) s
  | .exit id, Q, s => Q (.exit id) s
  | .ret, Q, s => Q .ret s
  | _, _, _ => False

section
variable {P : Program} {T : Tab} {N : Nat} {fp : Nat → Prop} {w0 : World} {K0 : Cfg}

def SimL (N : Nat) (fp : Nat → Prop) (w0 : World) (K0 : Cfg) (s : LSt) (a : Act) (w : World) (c : Cfg) : Prop := Sim N fp w0 K0 s.den a w c ∧ Fresh (fun _ => True) s.ep c

theorem SimL.weak {s s' : LSt} {a : Act} {w : World} {c : Cfg} (h : SimL N fp w0 K0 s a w c) (hl : s'.le s) : SimL N fp w0 K0 s' a w c := by
  obtain ⟨h, hf⟩ := h
  refine ⟨⟨⟨h.hs.kin, fun k cs hk => h.hs.box k cs (hl.mem k cs hk), h.hs.mblk, h.hs.minj, fun τ ht => h.hs.own τ (hl.live τ ht), fun τ τ' x x' g a b => h.hs.odis τ τ' x x' g (hl.live τ a) (hl.live τ' b)⟩,
    fun t v hv => h.env t v (hl.env t v hv), h.fr, h.nodef, h.size⟩, ?_, ?_⟩
  · intro k b hk
    have := hl.ep
    rcases hf.1 k b hk with h1 | ⟨h1, _⟩
    · exact .inl (by omega)
    · rcases Nat.lt_or_ge k.2.2 s'.ep with h2 | h2
      · exact .inl h2
      · exact .inr ⟨by omega, trivial⟩
  · intro k b hk
    have := hl.ep
    rcases hf.2 k b hk with h1 | ⟨h1, _⟩
    · exact .inl (by omega)
    · rcases Nat.lt_or_ge k.2.2 s'.ep with h2 | h2
      · exact .inl h2
      · exact .inr ⟨by omega, trivial⟩

theorem wp_loopN {c : Code} {Q : Exit → Act → World → Prop} (I : Nat → Act → World → Prop) (round : ∀ n a w, I n a w → c.wp P (Exit.then (fun a' w' => ∃ m, m < n ∧ I m a' w') Q) a w) :
    ∀ n a w, I n a w → (Code.loop c).wp P Q a w := by
  intro n a w h0 b k cs
  have key : ∀ n a w, I n a w → ∃ e a' w', Q e a' w' ∧ Arrives P (lone (b.at a (.code c :: .inLoop c :: k)) cs w) b k cs e a' w' := by
    intro n
    induction n using Nat.strongRecOn with
    | _ n ih =>
      intro a w hI
      obtain ⟨e, a₁, w₁, hq, harr⟩ := round n a w hI b (.inLoop c :: k) cs
      cases e with
      | normal =>
        obtain ⟨m, hlt, hI₁⟩ := hq
        obtain ⟨e₂, a₂, w₂, hq₂, harr₂⟩ := ih m hlt a₁ w₁ hI₁
        exact ⟨e₂, a₂, w₂, hq₂, .of_steps (Steps.trans harr (.one step_inLoop)) harr₂⟩
      | exit id => exact ⟨_, a₁, w₁, hq, .pass (x := .inLoop c) rfl (fun _ _ => .inl (by simp)) harr⟩
      | goto l => exact ⟨_, a₁, w₁, hq, .pass (x := .inLoop c) rfl (fun _ _ => .inl (by simp)) harr⟩
      | ret => exact ⟨_, a₁, w₁, hq, .pass (x := .inLoop c) rfl (fun _ _ => .inl (by simp)) harr⟩
      | panic ch => exact ⟨_, a₁, w₁, hq, .pass (x := .inLoop c) rfl (fun _ _ => .inl (by simp)) harr⟩
      | outgrown => exact ⟨_, a₁, w₁, hq, .pass (x := .inLoop c) rfl (fun _ _ => .inl (by simp)) harr⟩
  obtain ⟨e, a', w', hq, harr⟩ := key n a w h0
  exact ⟨e, a', w', hq, .of_steps (.one step_loop) harr⟩

theorem Sim.ep {σ : St} {a : Act} {w : World} {c : Cfg} (h : Sim N fp w0 K0 σ a w c) (n : Nat) : Sim N fp w0 K0 { σ with ep := n } a w c :=
  ⟨h.hs.congr rfl rfl, h.env, h.fr, h.nodef, h.size⟩

theorem Sim.drew {σ : St} {a : Act} {w : World} {c : Cfg} (h : Sim N fp w0 K0 σ a w c) : Sim N fp w0 K0 σ a { w with drawn := w.drawn + 1 } c :=
  ⟨⟨h.hs.kin, h.hs.box, h.hs.mblk, h.hs.minj, h.hs.own, h.hs.odis⟩, h.env, ⟨h.fr.os, h.fr.tape, h.fr.output, h.fr.size, h.fr.blk, h.fr.kn, h.fr.kle, h.fr.mB, h.fr.oB, h.fr.le0, h.fr.mN⟩, h.nodef, h.size⟩

theorem Fresh.next {ep : Nat} {c : Cfg} (h : Fresh (fun _ => True) ep c) : Fresh (fun _ => False) (ep + 1) c := by
  refine ⟨fun k b hk => .inl ?_, fun k x hk => .inl ?_⟩
  · rcases h.1 k b hk with h1 | h1 <;> omega
  · rcases h.2 k x hk with h1 | h1 <;> omega

/-- The outcomes of code, under what is known there. -/
def post (N : Nat) (fp : Nat → Prop) (w0 : World) (K0 : Cfg) (Q : Exit → LSt → Prop) (e : Exit) (a : Act) (w : World) : Prop := ∃ s c, Q e s ∧ SimL N fp w0 K0 s a w c

theorem AWp_sound (hT : ∀ t i, T t = some i → i.Good P t) (hm : P.follows .mixedOrders = true) : ∀ (c : Code) (Q : Exit → LSt → Prop) (s : LSt), AWp P T N c Q s →
    ∀ (a : Act) (w : World) (cf : Cfg), SimL N fp w0 K0 s a w cf → c.wp P (post N fp w0 K0 Q) a w := by
  intro c
  induction c with
  | skip => intro Q s h a w cf hs; exact wp_skip ⟨s, cf, h, hs⟩
  | label l => intro Q s h a w cf hs; exact wp_label ⟨s, cf, h, hs⟩
  | exit id => intro Q s h a w cf hs; exact wp_exit ⟨s, cf, h, hs⟩
  | ret => intro Q s h a w cf hs; exact wp_ret ⟨s, cf, h, hs⟩
  | seq x y ihx ihy =>
    intro Q s h a w cf hs
    refine wp_seq (wp_mono (ihx _ s h a w cf hs) ?_)
    rintro e a' w' ⟨s', c', hq, hs'⟩
    cases e with
    | normal => exact ihy Q s' hq a' w' c' hs'
    | _ => exact ⟨s', c', hq, hs'⟩
  | block id body ih =>
    intro Q s h a w cf hs
    refine wp_block (wp_mono (ih _ s h a w cf hs) ?_)
    rintro e a' w' ⟨s', c', hq, hs'⟩
    cases e with
    | exit id' =>
      unfold blockQ at hq
      unfold Exit.inBlock
      simp only at hq ⊢
      split at hq
      · rename_i q; rw [if_pos q]; exact ⟨s', c', hq, hs'⟩
      · rename_i q; rw [if_neg q]; exact ⟨s', c', hq, hs'⟩
    | _ => exact ⟨s', c', hq, hs'⟩
  | cond x y z ihy ihz =>
    intro Q s h a w cf hs
    unfold AWp at h
    split at h
    · rename_i b hb
      have := evalO_sound hs.1.env hb
      have hv : a.eval x = .bool b := by
        generalize a.eval x = u at this ⊢
        cases this with | dat _ _ h => cases h; rfl
      exact wp_cond_split hv (fun q => ihy Q s (h.1 q) a w cf hs) (fun q => ihz Q s (h.2 q) a w cf hs)
    · exact h.elim
  | loop body ih =>
    intro Q s h a w cf hs
    obtain ⟨I, n, s0, hle, h0, hr⟩ := h
    refine wp_loopN (fun n a w => ∃ s c, I n s ∧ SimL N fp w0 K0 s a w c) (fun n a w hI => ?_) n a w ⟨s0, cf, h0, hs.weak hle⟩
    obtain ⟨s1, c1, h1, hs1⟩ := hI
    refine wp_mono (ih _ s1 (hr n s1 h1) a w c1 hs1) ?_
    rintro e a' w' ⟨s', c', hq, hs'⟩
    cases e with
    | normal =>
      obtain ⟨m, s2, hlt, hle2, hI2⟩ := hq
      exact ⟨m, hlt, s2, c', hI2, hs'.weak hle2⟩
    | _ => exact ⟨s', c', hq, hs'⟩
  | region id ops draw =>
    intro Q s h a w cf hs
    obtain ⟨hd, hrun⟩ := h
    have hrun' := RunL_RunK _ _ _ hrun
    have hs1 : Sim N fp w0 K0 ({ s with ep := s.ep + 1 } : LSt).den a w cf := hs.1.ep (s.ep + 1)
    have hf1 := hs.2.next
    cases draw with
    | false =>
      refine wp_region ?_
      rw [List.range_eq_range']
      have := region_lex (Q := post N fp w0 K0 Q) hT ops.toList 0 (fun _ => False) _ a w cf _ (fun j => by simp) hd (fun _ _ _ _ h => h) hs1 hf1 hrun' ?_
      · simpa using this
      · rintro σ' a' w' c' es ⟨s', rfl, _, hq⟩ hep hs' hf'
        exact ⟨s', c', hq, hs', by rw [show s'.ep = s.ep + 1 from hep]; exact hf'⟩
    | true =>
      refine wp_region_any hm ?_
      have hs2 := hs1.drew
      obtain ⟨tr, h1, h2, s', h3, h4, h5⟩ := run_trace hT ops.toList 0 (fun _ => False) _ a _ cf _ (fun j => by simp) hd (fun _ _ _ _ h => h) hs2 hf1 hrun'
      have htr : Trace P T ops ({ s with ep := s.ep + 1 } : LSt).den tr := ⟨by simpa using h1, fun j o ho => h2 j o (by simpa using ho), h4 rfl⟩
      have hrep : ∀ n, (Array.replicate ops.size false).getD n false = false := by
        intro n
        simp only [Array.getD_eq_getD_getElem?]
        by_cases q : n < ops.size
        · simp [q]
        · simp [Array.getElem?_eq_none, q]
      have hst0 : stS tr (fun n => (Array.replicate ops.size false).getD n false) ({ s with ep := s.ep + 1 } : LSt).den = ({ s with ep := s.ep + 1 } : LSt).den := by
        have : ∀ (tr : List (Option Nat × Eff)) (σ : St), stS tr (fun _ => false) σ = σ := by
          intro tr
          induction tr with
          | nil => intro σ; rfl
          | cons p r ih => intro σ; obtain ⟨d, e⟩ := p; rw [stS]; exact ih σ
        rw [show (fun n => (Array.replicate ops.size false).getD n false) = (fun _ => false) from funext hrep]
        exact this _ _
      refine region_any (Q := post N fp w0 K0 Q) hT htr hd (fun a' w' c' hs' hf' => ?_) ops.size _ a _ cf (by simp) (by simp [List.countP_replicate]) (fun j o _ hS => by simp only [hrep] at hS; cases hS) (by rw [hst0]; exact hs2) ?_
      · rw [h3] at hs'
        have hep : s'.ep = s.ep + 1 := by
          have := congrArg St.ep h3
          rw [stS_ep] at this
          exact this.symm
        exact ⟨s', c', h5, hs', by rw [hep]; exact hf'⟩
      · exact ⟨fun k b hk => (hf1.1 k b hk).imp (fun h => h) fun h => h.2.elim, fun k b hk => (hf1.2 k b hk).imp (fun h => h) fun h => h.2.elim⟩
  | rangeFunc => intro Q s h; exact h.elim
  | scope body ih =>
    intro Q s h a w cf hs
    refine wp_scope_straight (wp_mono (ih _ s h a w cf hs) ?_)
    rintro e a' w' ⟨s', c', hq, hs'⟩
    cases e with
    | goto l => exact hq.elim
    | _ => exact ⟨s', c', hq, hs'⟩
  | goto => intro Q s h; exact h.elim
  | refuse => intro Q s h; exact h.elim

/-! ### Functions -/

def initE : Nat → List DV → List (Nat × PV)
  | _, [] => []
  | k, d :: r => (k, .dat d) :: initE (k + 1) r

def initL (args : List DV) : LSt := { env := initE 0 args, mem := [], live := [], ep := 0 }

theorem lookE_init : ∀ (args : List DV) (k t : Nat) (v : PV), lookE (initE k args) t = some v → ∃ d, k ≤ t ∧ args[t - k]? = some d ∧ v = .dat d
  | [], _, _, _, h => by simp [initE, lookE] at h
  | d :: r, k, t, v, h => by
    simp only [initE, lookE] at h
    split at h
    · rename_i q
      subst q
      exact ⟨d, Nat.le_refl _, by simp, (Option.some.inj h).symm⟩
    · rename_i q
      obtain ⟨d', h1, h2, h3⟩ := lookE_init r (k + 1) t v h
      refine ⟨d', by omega, ?_, h3⟩
      rw [show t - k = (t - (k + 1)) + 1 by omega, List.getElem?_cons_succ]
      exact h2

/-- What a result variable holds. -/
def resD (T : Tab) (s : LSt) : ResultVar → Option DV
  | .tmp t => (lookE s.env t).bind asD
  | .cell t ty =>
    match lookE s.env t, T ty with
    | some (.ptr k 0), some i => match lookM s.mem k with
      | some cs => if i.isAgg then (if i.size = cs.length then asD (collect cs) else none) else (match cs with | v :: _ => asD v | [] => none)
      | none => none
    | _, _ => none

def resDs (T : Tab) (s : LSt) : List ResultVar → Option (List DV)
  | [] => some []
  | r :: l => match resD T s r, resDs T s l with | some d, some ds => some (normD d :: ds) | _, _ => none

/-- What a function comes to: one result, or several. -/
def resF (T : Tab) (s : LSt) (l : List ResultVar) : Option DV :=
  match resDs T s l with
  | some [d] => some d
  | some ds => some (.tup ds)
  | none => none

def resS (tmps : Array Value) : ResultVar → Sem Value
  | .tmp t => pure (tmps.getD t undef)
  | .cell t ty => do loadVar ty (← asAddr (tmps.getD t undef))

theorem results_resS (fn : Func) (tmps : Array Value) : results fn tmps = (do let vs ← fn.results.mapM (resS tmps); pure (if h : vs.size = 1 then vs[0] else .tuple vs)) := by
  unfold results
  congr 1

theorem resD_sound (hT : ∀ t i, T t = some i → i.Good P t) {s : LSt} {a : Act} {w : World} {c : Cfg} (h : SimL N fp w0 K0 s a w c) {r : ResultVar} {d : DV} (hd : resD T s r = some d) :
    ∃ v, (resS a.tmps r).run P w = .ok v w ∧ RepD c.K d v := by
  unfold resS
  cases r with
  | tmp t =>
    simp only [resD, Option.bind_eq_some_iff] at hd
    obtain ⟨v, hv, hd⟩ := hd
    obtain ⟨x, h1, h2⟩ := h.1.env t v hv
    exact ⟨x, by simp [h1], asD_sound h2 hd⟩
  | cell t ty =>
    simp only [resD] at hd
    split at hd
    · rename_i k i hv hi
      split at hd
      · rename_i cs hk
        obtain ⟨x, h1, h2⟩ := h.1.env t _ hv
        obtain ⟨b, ety, arr, g1, g2, g3, g4⟩ := h.1.hs.box k cs hk
        have hx : a.tmps.getD t undef = .pointer (some ⟨b, 0, none⟩) := by
          rw [getD_of_some h1]
          cases h2 with
          | ptr _ _ b' hm => rw [g1] at hm; cases hm; rfl
        have hg := hT ty i hi
        split at hd
        · rename_i ha
          split at hd
          · rename_i hl
            have hrun : (loadVar ty ⟨b, 0, none⟩).run P w = .ok (.agg arr.toList.toArray) w := by
              refine run_loadVar_aggL w ty _ _ (by rw [hg.runAgg, ha]) (by rw [hg.runSize]; simp [hl, g3]) (fun j v hj => ?_)
              rw [addr_add, cell_of_row w b (0 + j) arr ety (0, 0) g2, Nat.zero_add]
              simpa using hj
            refine ⟨.agg arr, by simp [hx, asAddr, hrun], ?_⟩
            refine asD_sound (collect_sound g3 (fun j p hp => ?_)) hd
            obtain ⟨y, g5, g6, g7⟩ := g4 j p hp
            rw [getD_of_some g5]
            exact ⟨g6, g7⟩
          · cases hd
        · rename_i ha
          split at hd
          · rename_i v r
            obtain ⟨y, g5, g6, g7⟩ := g4 0 v rfl
            have hrun : (loadVar ty ⟨b, 0, none⟩).run P w = .ok y w :=
              run_loadVar_oneL w ty _ y (by rw [hg.runAgg]; simpa using ha) (by rw [cell_of_row w b 0 arr ety (0, 0) g2]; exact g5)
            exact ⟨y, by simp [hx, asAddr, hrun], asD_sound g7 hd⟩
          · cases hd
      · cases hd
    · cases hd

theorem resF_sound (hT : ∀ t i, T t = some i → i.Good P t) {s : LSt} {a : Act} {w : World} {c : Cfg} (h : SimL N fp w0 K0 s a w c) {fn : Func} {d : DV} (hd : resF T s fn.results.toList = some d) :
    ∃ v, (results fn a.tmps).run P w = .ok v w ∧ RepD c.K d v := by
  have key : ∀ (l : List ResultVar) (ds : List DV), resDs T s l = some ds → ∃ vs : List Value,
      (l.mapM (resS a.tmps)).run P w = .ok vs w ∧ vs.length = ds.length ∧ ∀ (j : Nat) (d : DV), ds[j]? = some d → ∃ v, vs[j]? = some v ∧ RepD c.K d v := by
    intro l
    induction l with
    | nil => intro ds hd; simp [resDs] at hd; subst hd; exact ⟨[], rfl, rfl, fun j d hj => by simp at hj⟩
    | cons r l ih =>
      intro ds hd
      simp only [resDs] at hd
      split at hd <;> simp at hd
      rename_i d ds' h1 h2
      subst hd
      obtain ⟨v, g1, g2⟩ := resD_sound hT h h1
      obtain ⟨vs, g3, g4, g5⟩ := ih ds' h2
      refine ⟨v :: vs, ?_, by simp [g4], fun j d' hj => ?_⟩
      · rw [List.mapM_cons]
        simp only [Sem.run_bind]
        rw [g1]
        simp only [Result.andThen_ok]
        rw [g3]
        rfl
      · cases j with
        | zero => simp at hj; subst hj; exact ⟨v, rfl, normD_sound g2⟩
        | succ j => simpa using g5 j d' (by simpa using hj)
  have main : ∀ ds, resDs T s fn.results.toList = some ds → (∃ vs : List Value, (results fn a.tmps).run P w = .ok (if h : vs.toArray.size = 1 then vs.toArray[0] else .tuple vs.toArray) w ∧ vs.length = ds.length ∧ ∀ (j : Nat) (d : DV), ds[j]? = some d → ∃ v, vs[j]? = some v ∧ RepD c.K d v) := by
    intro ds hds
    obtain ⟨vs, h1, h2, h3⟩ := key _ _ hds
    refine ⟨vs, ?_, h2, h3⟩
    rw [results_resS, Sem.run_bind, Array.mapM_eq_mapM_toList, Sem.run_map, h1]
    rfl
  unfold resF at hd
  split at hd
  · rename_i d' hds
    simp at hd
    subst hd
    obtain ⟨vs, h1, h2, h3⟩ := main _ hds
    obtain ⟨v, g1, g2⟩ := h3 0 d' rfl
    cases vs with
    | nil => simp at g1
    | cons v' r =>
      simp at g1
      subst g1
      cases r with
      | nil => exact ⟨v', by simpa using h1, g2⟩
      | cons _ _ => simp at h2
  · rename_i ds hne hds
    simp at hd
    subst hd
    obtain ⟨vs, h1, h2, h3⟩ := main _ hds
    have hsz : ¬ vs.toArray.size = 1 := by
      intro q
      simp [h2] at q
      cases ds with
      | nil => simp at q
      | cons x r => cases r with | nil => exact hne x rfl | cons _ _ => simp at q
    rw [dif_neg hsz] at h1
    refine ⟨_, h1, .tup _ _ (by simpa using h2) (fun j d hj => ?_)⟩
    obtain ⟨v, g1, g2⟩ := h3 j d hj
    rw [getD_of_some (by simpa using g1)]
    exact g2
  · cases hd

/-- Ways out of a function's body. -/
def fnQ (T : Tab) (fn : Func) (R : DV → Prop) : Exit → LSt → Prop
  | .normal, s => ∃ d, resF T s fn.results.toList = some d ∧ R d
  | .ret, s => ∃ d, resF T s fn.results.toList = some d ∧ R d
  | _, _ => False

/-- **A pure function's contract, by the abstract machine.** -/
theorem CallsD_of (hT : ∀ t i, T t = some i → i.Good P t) (hm : P.follows .mixedOrders = true) {g : FuncId} {fn : Func} {code : Code} {args : List DV} {r : DV} (hf : P.funcs[g]? = some fn) (hb : fn.body = some code) (he : EnterOk P g)
    (hn : args.length ≤ fn.ntmps) (h : AWp P T fn.ntmps code (fnQ T fn (fun d => d = r)) (initL args)) : CallsD P g args r := by
  refine ⟨he, fun K w xs hK hx => calls_of_wp hf hb ?_⟩
  have hsim : SimL fn.ntmps (fun _ => False) w { K := K, M := fun _ => none, O := fun _ => none } (initL args) { tmps := xs ++ Array.replicate (fn.ntmps - xs.size) undef, defers := [] } w { K := K, M := fun _ => none, O := fun _ => none } := by
    refine ⟨⟨⟨hK, fun k cs hk => by simp [LSt.den, initL, lookM] at hk, fun k b hk => by simp at hk, fun k k' b hk => by simp at hk, fun τ ht => by simp [LSt.den, initL, lookB] at ht, fun τ τ' x x' g a => by simp [LSt.den, initL, lookB] at a⟩, fun t v hv => ?_,
      ⟨rfl, rfl, rfl, Nat.le_refl _, fun _ _ _ => rfl, fun _ _ _ _ => rfl, fun _ _ _ h => h, fun k b hk => by simp at hk, fun τ x hx => by simp at hx, Cfg.le.refl _, fun k b hk => by simp at hk⟩, rfl, ?_⟩, fun k b hk => by simp at hk, fun k x hk => by simp at hk⟩
    · obtain ⟨d, h1, h2, h3⟩ := lookE_init args 0 t v hv
      subst h3
      rw [Nat.sub_zero] at h2
      have hlt : t < xs.size := by rw [hx.1]; exact (List.getElem?_eq_some_iff.1 h2).1
      exact ⟨xs.getD t undef, by simp [Array.getElem?_append_left hlt, hlt], .dat _ _ (hx.2 t d h2)⟩
    · simp [hx.1]; omega
  refine wp_mono (AWp_sound hT hm code _ _ h _ w _ hsim) ?_
  rintro e a w' ⟨s, c, hq, hs⟩
  have fin : (∃ d, resF T s fn.results.toList = some d ∧ d = r) → a.defers = [] ∧ ∃ v, (results fn a.tmps).run P w' = .ok v w' ∧
      (∃ v' K', Ending.returned v = .returned v' ∧ RepD K' r v' ∧ (∀ b o v, K b o = some v → K' b o = some v) ∧ (∀ b o, b < w.heap.size → K' b o = K b o) ∧ (∀ b o v, K' b o = some v → w'.cell? ⟨b, o, none⟩ = some v) ∧ Below w.heap.size w w') := by
    rintro ⟨d, hd, rfl⟩
    obtain ⟨v, h1, h2⟩ := resF_sound hT hs hd
    have hfr := hs.1.fr
    exact ⟨hs.1.nodef, v, h1, v, c.K, rfl, h2, hfr.kle, fun b o hb => hfr.kn b o hb (fun q => q), hs.1.hs.kin, ⟨hfr.os, hfr.tape, hfr.output, hfr.size, fun k hk => hfr.blk k hk (fun q => q)⟩⟩
  cases e with
  | normal => exact fin hq
  | ret => exact fin hq
  | _ => exact hq.elim

/-- A pure call as a step. -/
theorem CallK.pure {g : FuncId} {ds : List DV} {r : DV} {args : List PV} {σ : St} {d : Nat} {K : Eff → Prop} (h : CallsD P g ds r) (ha : args.length = ds.length) (hd : ∀ (j : Nat) (v : PV) (x : DV), args[j]? = some v → ds[j]? = some x → ∀ c y, RepP c v y → RepD c.K x y)
    (hk : K { val := .dat r }) : CallK P g args σ (some d) K := by
  refine ⟨d, [], { val := .dat r }, rfl, by simp, by simp, ⟨h.1, rfl, ?_⟩, hk⟩
  intro σ w c xs hep _ _ hs _ hx
  have hxs : RepDs c.K ds xs := by
    refine ⟨by rw [hx.1, ha], fun j x hj => ?_⟩
    have hlt : j < args.length := by rw [ha]; exact (List.getElem?_eq_some_iff.1 hj).1
    have hv : args[j]? = some args[j] := by simp [hlt]
    exact hd j _ x hv hj c _ (hx.2 j _ hv)
  refine (h.2 c.K w xs hs.kin hxs).mono ?_
  rintro en w' ⟨v, K', rfl, h1, h2, h3, h4, h5⟩
  refine ⟨v, { c with K := K' }, rfl, .dat _ _ h1, ?_⟩
  have hle : c.le { c with K := K' } := ⟨h2, fun _ _ q => q, fun _ _ q => q⟩
  refine ⟨hle, h5.os, h5.tape, h5.output, h5.size, fun b hb _ => h5.block b hb, fun b o hb _ => h3 b o hb, fun _ _ q => .inl q, fun _ _ q => .inl q, ?_⟩
  refine ⟨h4, fun k cs hk => ?_, fun k b hk => ?_, hs.minj, fun τ ht => ?_, ?_⟩
  · simp only [Eff.app, wrMem, Eff.alKeys, List.map_nil] at hk
    obtain ⟨b, t, ar, g1, g2, g3, g4⟩ := hs.box k cs hk
    refine ⟨b, t, ar, g1, (h5.block b (hs.mblk k b g1).1).trans g2, g3, fun j v hj => ?_⟩
    obtain ⟨y, g5, g6, g7⟩ := g4 j v hj
    exact ⟨y, g5, g6, g7.mono hle⟩
  · refine ⟨Nat.lt_of_lt_of_le (hs.mblk k b hk).1 h5.size, fun o => ?_⟩
    show K' b o = none
    rw [h3 b o (hs.mblk k b hk).1]
    exact (hs.mblk k b hk).2 o
  · simp only [Eff.app, setLive, Eff.nwKeys, List.map_nil] at ht
    obtain ⟨x, e, sz, n, ys, g1, g2, g3⟩ := hs.own τ ht
    refine ⟨x, e, sz, n, ys, g1, g2.kept (row := none) ⟨h5.os, h5.tape, h5.output, h5.size, fun k hk _ => h5.block k hk⟩ ?_, fun g hg => ⟨fun o v hk => ?_, (g3 g hg).2⟩⟩
    · cases x.ownBlock with
      | none => exact .inl rfl
      | some g => exact .inr (by simp)
    · have hlt := (g2.lt g hg).2
      rw [show ({ c with K := K' } : Cfg).K g o = c.K g o from h3 g o hlt] at hk
      exact (g3 g hg).1 o v hk
  · intro τ τ' x x' g a b
    simp only [Eff.app, setLive, Eff.nwKeys, List.map_nil] at a b
    exact hs.odis τ τ' x x' g a b

end
end Go.Proofs.Ytehhgamkijkjgaa.AM
