/- The abstract machine (17): rules to step with. -/
import Derived.Test.YtehhgamkijkjgaaAmQ
namespace Go.Proofs.Ytehhgamkijkjgaa.AM
open Go.RowKit
set_option linter.unusedVariables false

section
variable {P : Program} {T : Tab} {N : Nat} {ops : Array Oper} {o : Oper} {l : List Oper} {env : List (Nat × PV)} {mem : List (Key × List PV)} {live : List (Key × Bool)} {ep : Nat} {K : LSt → List Eff → Prop} {d : Nat} {Q : Exit → LSt → Prop} {s : LSt}

theorem rl_nil (h : K ⟨env, mem, live, ep⟩ []) : RunL P T ops [] ⟨env, mem, live, ep⟩ K := h

theorem rl_step (hg : o.guard = none) (h : OpK P T true o (LSt.mk env mem live ep).den fun e => RunL P T ops l (appL o.dst e ⟨env, mem, live, ep⟩) fun s' es => K s' (e :: es)) : RunL P T ops (o :: l) ⟨env, mem, live, ep⟩ K := by
  unfold RunL StepK
  rw [hg]
  exact h

/-- A plain value. -/
theorem rl_val {v : PV} (hg : o.guard = none) (hd : o.dst = some d) (h : opOut T o (LSt.mk env mem live ep).den = .eff { val := v })
    (hk : RunL P T ops l ⟨(d, v) :: env, mem, live, ep⟩ fun s' es => K s' ({ val := v } :: es)) : RunL P T ops (o :: l) ⟨env, mem, live, ep⟩ K := by
  refine rl_step hg ?_
  unfold OpK
  rw [h, hd]
  exact hk

/-- A bool, by a name of its own. -/
theorem rl_bool {b0 : Bool} (hg : o.guard = none) (hd : o.dst = some d) (h : opOut T o (LSt.mk env mem live ep).den = .eff { val := .dat (.bool b0) })
    (hk : ∀ b, b0 = b → RunL P T ops l ⟨(d, .dat (.bool b)) :: env, mem, live, ep⟩ fun s' es => K s' ({ val := .dat (.bool b) } :: es)) : RunL P T ops (o :: l) ⟨env, mem, live, ep⟩ K :=
  rl_val hg hd h (hk _ rfl)

theorem rl_gated {v : PV} {p : Prop} (hg : o.guard = none) (hd : o.dst = some d) (h : opOut T o (LSt.mk env mem live ep).den = .gated p { val := v })
    (hk : p → RunL P T ops l ⟨(d, v) :: env, mem, live, ep⟩ fun s' es => K s' ({ val := v } :: es)) : RunL P T ops (o :: l) ⟨env, mem, live, ep⟩ K := by
  refine rl_step hg ?_
  unfold OpK
  rw [h, hd]
  exact hk

theorem rl_need {v : PV} {p : Prop} (hg : o.guard = none) (hd : o.dst = some d) (h : opOut T o (LSt.mk env mem live ep).den = .need p { val := v }) (hp : p)
    (hk : RunL P T ops l ⟨(d, v) :: env, mem, live, ep⟩ fun s' es => K s' ({ val := v } :: es)) : RunL P T ops (o :: l) ⟨env, mem, live, ep⟩ K := by
  refine rl_step hg ?_
  unfold OpK
  rw [h, hd]
  exact ⟨hp, hk⟩

/-- An appendable row of its own, by need. -/
theorem rl_needN {v : PV} {p : Prop} (hg : o.guard = none) (hd : o.dst = some d) (h : opOut T o (LSt.mk env mem live ep).den = .need p { val := v, nw := [0] }) (hp : p)
    (hk : RunL P T ops l ⟨(d, v) :: env, mem, ((d, 0, ep), true) :: live, ep⟩ fun s' es => K s' ({ val := v, nw := [0] } :: es)) : RunL P T ops (o :: l) ⟨env, mem, live, ep⟩ K := by
  refine rl_step hg ?_
  unfold OpK
  rw [h, hd]
  exact ⟨hp, hk⟩

theorem rl_new {v : PV} (hg : o.guard = none) (hd : o.dst = some d) (h : opOut T o (LSt.mk env mem live ep).den = .eff { val := v, nw := [0] })
    (hk : RunL P T ops l ⟨(d, v) :: env, mem, ((d, 0, ep), true) :: live, ep⟩ fun s' es => K s' ({ val := v, nw := [0] } :: es)) : RunL P T ops (o :: l) ⟨env, mem, live, ep⟩ K := by
  refine rl_step hg ?_
  unfold OpK
  rw [h, hd]
  exact hk

theorem rl_alloc {v : PV} {cs : List PV} (hg : o.guard = none) (hd : o.dst = some d) (h : opOut T o (LSt.mk env mem live ep).den = .eff { val := v, al := [(0, cs)] })
    (hk : RunL P T ops l ⟨(d, v) :: env, ((d, 0, ep), cs) :: mem, live, ep⟩ fun s' es => K s' ({ val := v, al := [(0, cs)] } :: es)) : RunL P T ops (o :: l) ⟨env, mem, live, ep⟩ K := by
  refine rl_step hg ?_
  unfold OpK
  rw [h, hd]
  exact hk

theorem rl_two {t : Bool} {x y : Option PV} {vx vy : PV} (hg : o.guard = none) (hd : o.dst = some d) (h : opOut T o (LSt.mk env mem live ep).den = .two t x y)
    (h1 : t = true → ∃ v, x = some v ∧ RunL P T ops l ⟨(d, v) :: env, mem, live, ep⟩ fun s' es => K s' ({ val := v } :: es))
    (h2 : t = false → ∃ v, y = some v ∧ RunL P T ops l ⟨(d, v) :: env, mem, live, ep⟩ fun s' es => K s' ({ val := v } :: es)) : RunL P T ops (o :: l) ⟨env, mem, live, ep⟩ K := by
  refine rl_step hg ?_
  unfold OpK
  rw [h, hd]
  refine ⟨fun q => ?_, fun q => ?_⟩
  · obtain ⟨v, rfl, hk⟩ := h1 q; exact hk
  · obtain ⟨v, rfl, hk⟩ := h2 q; exact hk

theorem rl_twoT {x y : Option PV} {v : PV} (hg : o.guard = none) (hd : o.dst = some d) (h : opOut T o (LSt.mk env mem live ep).den = .two true x y) (hx : x = some v)
    (hk : RunL P T ops l ⟨(d, v) :: env, mem, live, ep⟩ fun s' es => K s' ({ val := v } :: es)) : RunL P T ops (o :: l) ⟨env, mem, live, ep⟩ K := by
  refine rl_step hg ?_
  unfold OpK
  rw [h, hd, hx]
  exact ⟨fun _ => hk, fun q => by cases q⟩

theorem rl_twoF {x y : Option PV} {v : PV} (hg : o.guard = none) (hd : o.dst = some d) (h : opOut T o (LSt.mk env mem live ep).den = .two false x y) (hy : y = some v)
    (hk : RunL P T ops l ⟨(d, v) :: env, mem, live, ep⟩ fun s' es => K s' ({ val := v } :: es)) : RunL P T ops (o :: l) ⟨env, mem, live, ep⟩ K := by
  refine rl_step hg ?_
  unfold OpK
  rw [h, hd, hy]
  exact ⟨(fun q => by cases q), fun _ => hk⟩

theorem rl_row {p : List DV → Prop} {e : List DV → Eff} {v : PV} (cs : List DV) (hg : o.guard = none) (hd : o.dst = some d) (h : opOut T o (LSt.mk env mem live ep).den = .row p e) (hp : p cs) (he : e cs = { val := v })
    (hk : RunL P T ops l ⟨(d, v) :: env, mem, live, ep⟩ fun s' es => K s' ({ val := v } :: es)) : RunL P T ops (o :: l) ⟨env, mem, live, ep⟩ K := by
  refine rl_step hg ?_
  unfold OpK
  rw [h, hd]
  refine ⟨cs, hp, ?_⟩
  rw [he]
  exact hk

theorem rl_byte {p : UInt8 → Prop} {e : UInt8 → Eff} {v : PV} (c : UInt8) (hg : o.guard = none) (hd : o.dst = some d) (h : opOut T o (LSt.mk env mem live ep).den = .byte p e) (hp : p c) (he : e c = { val := v })
    (hk : RunL P T ops l ⟨(d, v) :: env, mem, live, ep⟩ fun s' es => K s' ({ val := v } :: es)) : RunL P T ops (o :: l) ⟨env, mem, live, ep⟩ K := by
  refine rl_step hg ?_
  unfold OpK
  rw [h, hd]
  refine ⟨c, hp, ?_⟩
  rw [he]
  exact hk

theorem rl_load {k : Key} {f : List PV → Option Eff} {cs : List PV} {v : PV} (hg : o.guard = none) (hd : o.dst = some d) (h : opOut T o (LSt.mk env mem live ep).den = .box k f) (hm : lookM mem k = some cs) (hf : f cs = some { val := v })
    (hk : RunL P T ops l ⟨(d, v) :: env, mem, live, ep⟩ fun s' es => K s' ({ val := v, rd := [k] } :: es)) : RunL P T ops (o :: l) ⟨env, mem, live, ep⟩ K := by
  refine rl_step hg ?_
  unfold OpK
  rw [h, hd]
  have hm' : (LSt.mk env mem live ep).den.mem k = some cs := hm
  simp only [Out.holds, hm', hf]
  exact hk

theorem rl_store {k : Key} {f : List PV → Option Eff} {cs new : List PV} (hg : o.guard = none) (hd : o.dst = none) (h : opOut T o (LSt.mk env mem live ep).den = .box k f) (hm : lookM mem k = some cs) (hf : f cs = some { val := unitP, wr := [(k, new)] })
    (hk : RunL P T ops l ⟨env, (k, new) :: mem, live, ep⟩ fun s' es => K s' ({ val := unitP, wr := [(k, new)], rd := [k] } :: es)) : RunL P T ops (o :: l) ⟨env, mem, live, ep⟩ K := by
  refine rl_step hg ?_
  unfold OpK
  rw [h, hd]
  have hm' : (LSt.mk env mem live ep).den.mem k = some cs := hm
  simp only [Out.holds, hm', hf]
  exact hk

theorem rl_own {τ : Key} {p : Prop} {v : PV} (hg : o.guard = none) (hd : o.dst = some d) (h : opOut T o (LSt.mk env mem live ep).den = .own τ p { val := v, nw := [0] }) (hl : lookB live τ = true) (hp : p)
    (hk : RunL P T ops l ⟨(d, v) :: env, mem, ((d, 0, ep), true) :: (τ, false) :: live, ep⟩ fun s' es => K s' ({ val := v, nw := [0], use := [τ] } :: es)) : RunL P T ops (o :: l) ⟨env, mem, live, ep⟩ K := by
  refine rl_step hg ?_
  unfold OpK
  rw [h, hd]
  exact ⟨hl, hp, hk⟩

def argOk : List PV → List DV → Prop
  | [], [] => True
  | .dat d :: r, x :: l => (d = x ∨ normD d = x ∨ ∃ s1 s2, d = .nil s1 ∧ x = .lst s2 []) ∧ argOk r l
  | .acc _ sz es :: r, x :: l => (DV.lst sz es = x ∨ False) ∧ argOk r l
  | _, _ => False

theorem argOk_sound : ∀ {args : List PV} {ds : List DV}, argOk args ds → args.length = ds.length ∧ ∀ (j : Nat) (v : PV) (x : DV), args[j]? = some v → ds[j]? = some x → ∀ c y, RepP c v y → RepD c.K x y
  | [], [], _ => ⟨rfl, fun j v x h => by simp at h⟩
  | .dat d :: r, x :: l, h => by
    obtain ⟨h1, h2⟩ := argOk_sound h.2
    refine ⟨by simp [h1], fun j v x' hv hx c y hr => ?_⟩
    cases j with
    | zero =>
      simp at hv hx
      subst hv hx
      cases hr with
      | dat _ _ hr =>
        rcases h.1 with rfl | rfl | ⟨s1, s2, rfl, rfl⟩
        · exact hr
        · exact normD_sound hr
        · cases hr; exact .nils s2
    | succ j => exact h2 j v x' (by simpa using hv) (by simpa using hx) c y hr
  | .acc τ sz es :: r, x :: l, h => by
    obtain ⟨h1, h2⟩ := argOk_sound h.2
    refine ⟨by simp [h1], fun j v x' hv hx c y hr => ?_⟩
    cases j with
    | zero =>
      simp at hv hx
      subst hv hx
      cases hr with
      | acc _ _ _ _ _ _ hr => rw [← h.1.resolve_right id]; exact hr
    | succ j => exact h2 j v x' (by simpa using hv) (by simpa using hx) c y hr
  | [], _ :: _, h => h.elim
  | .dat _ :: _, [], h => h.elim
  | .acc _ _ _ :: _, [], h => h.elim
  | .ptr _ _ :: _, _, h => by cases ‹List DV› <;> exact h.elim
  | .clo _ _ :: _, _, h => by cases ‹List DV› <;> exact h.elim
  | .mix _ :: _, _, h => by cases ‹List DV› <;> exact h.elim

theorem rl_call {g : FuncId} {args : List PV} {ds : List DV} {r : DV} (hc : CallsD P g ds r) (hg : o.guard = none) (hd : o.dst = some d) (h : opOut T o (LSt.mk env mem live ep).den = .call g args) (ha : argOk args ds)
    (hk : RunL P T ops l ⟨(d, .dat r) :: env, mem, live, ep⟩ fun s' es => K s' ({ val := .dat r } :: es)) : RunL P T ops (o :: l) ⟨env, mem, live, ep⟩ K := by
  refine rl_step hg ?_
  unfold OpK
  rw [h]
  simp only [Out.holds]
  rw [hd]
  exact CallK.pure hc (argOk_sound ha).1 (argOk_sound ha).2 hk

/-- A guard that holds. -/
theorem rl_on {j : Nat} {want b : Bool} {dst : Option Nat} {op : Op} {ty : TypeId} {pos : String} {after : Array Edge} (hl : ((ops[j]?).bind (·.dst)).bind (lookE env) = some (.dat (.bool b))) (hb : b = want)
    (hk : RunL P T ops ({ dst := dst, op := op, type := ty, pos := pos, after := after, guard := none } :: l) ⟨env, mem, live, ep⟩ K) : RunL P T ops ({ dst := dst, op := op, type := ty, pos := pos, after := after, guard := some (j, want) } :: l) ⟨env, mem, live, ep⟩ K := by
  unfold RunL StepK at hk ⊢
  have hl' : ((ops[j]?).bind (·.dst)).bind (LSt.mk env mem live ep).den.env = some (.dat (.bool b)) := hl
  simp only [hl'] at hk ⊢
  refine ⟨fun _ => hk, fun q => (by rw [hb] at q; cases want <;> cases q)⟩

theorem rl_off {j : Nat} {want b : Bool} {op : Op} {ty : TypeId} {pos : String} {after : Array Edge} {d : Nat} (hl : ((ops[j]?).bind (·.dst)).bind (lookE env) = some (.dat (.bool b))) (hb : b = !want)
    (hk : RunL P T ops l ⟨(d, unitP) :: env, mem, live, ep⟩ fun s' es => K s' (skipE :: es)) : RunL P T ops ({ dst := some d, op := op, type := ty, pos := pos, after := after, guard := some (j, want) } :: l) ⟨env, mem, live, ep⟩ K := by
  unfold RunL StepK
  have hl' : ((ops[j]?).bind (·.dst)).bind (LSt.mk env mem live ep).den.env = some (.dat (.bool b)) := hl
  simp only [hl']
  refine ⟨fun q => (by rw [hb] at q; cases want <;> cases q), fun _ => hk⟩

theorem rl_offU {j : Nat} {want : Bool} {op : Op} {ty : TypeId} {pos : String} {after : Array Edge} {d : Nat} (hl : ((ops[j]?).bind (·.dst)).bind (lookE env) = some (.dat (.tup [])))
    (hk : RunL P T ops l ⟨(d, unitP) :: env, mem, live, ep⟩ fun s' es => K s' (skipE :: es)) : RunL P T ops ({ dst := some d, op := op, type := ty, pos := pos, after := after, guard := some (j, want) } :: l) ⟨env, mem, live, ep⟩ K := by
  unfold RunL StepK
  have hl' : ((ops[j]?).bind (·.dst)).bind (LSt.mk env mem live ep).den.env = some (.dat (.tup [])) := hl
  simp only [hl']
  exact hk

/-- The two ways of a guard. -/
theorem rl_case {j : Nat} {want : Bool} {dst : Option Nat} {op : Op} {ty : TypeId} {pos : String} {after : Array Edge} {b : Bool} (hl : ((ops[j]?).bind (·.dst)).bind (lookE env) = some (.dat (.bool b)))
    (h1 : b = true → RunL P T ops ({ dst := dst, op := op, type := ty, pos := pos, after := after, guard := some (j, want) } :: l) ⟨env, mem, live, ep⟩ K)
    (h2 : b = false → RunL P T ops ({ dst := dst, op := op, type := ty, pos := pos, after := after, guard := some (j, want) } :: l) ⟨env, mem, live, ep⟩ K) : RunL P T ops ({ dst := dst, op := op, type := ty, pos := pos, after := after, guard := some (j, want) } :: l) ⟨env, mem, live, ep⟩ K := by
  cases b
  · exact h2 rfl
  · exact h1 rfl

theorem aw_skip (h : Q .normal s) : AWp P T N .skip Q s := h
theorem aw_label {i : Nat} (h : Q .normal s) : AWp P T N (.label i) Q s := h
theorem aw_seq {a b : Code} (h : AWp P T N a (thenQ (AWp P T N b Q) Q) s) : AWp P T N (.seq a b) Q s := h
theorem aw_block {i : Nat} {a : Code} (h : AWp P T N a (blockQ i Q) s) : AWp P T N (.block i a) Q s := h
theorem aw_scope {a : Code} (h : AWp P T N a (noGotoQ Q) s) : AWp P T N (.scope a) Q s := h
theorem ng_n (h : Q .normal s) : noGotoQ Q .normal s := h
theorem ng_r (h : Q .ret s) : noGotoQ Q .ret s := h
theorem ng_x {i : Nat} (h : Q (.exit i) s) : noGotoQ Q (.exit i) s := h
theorem aw_exit {i : Nat} (h : Q (.exit i) s) : AWp P T N (.exit i) Q s := h
theorem aw_ret (h : Q .ret s) : AWp P T N .ret Q s := h
theorem aw_reg {i : Nat} {l : List Oper} (hd : dstOk N l = true) (h : RunL P T ⟨l⟩ l ⟨env, mem, live, ep + 1⟩ fun s' _ => Q .normal s') : AWp P T N (.region i ⟨l⟩ false) Q ⟨env, mem, live, ep⟩ := by
  refine ⟨hd, ?_⟩
  have : (fun s' (es : List Eff) => (false = true → regOk ⟨l⟩ es = true) ∧ Q .normal s') = fun s' _ => Q .normal s' := by
    funext s' es
    simp
  simp only [this]
  exact h
theorem aw_draw {i : Nat} {l : List Oper} (hd : dstOk N l = true) (h : RunL P T ⟨l⟩ l ⟨env, mem, live, ep + 1⟩ fun s' es => regOk ⟨l⟩ es = true ∧ Q .normal s') : AWp P T N (.region i ⟨l⟩ true) Q ⟨env, mem, live, ep⟩ := by
  refine ⟨hd, ?_⟩
  have : (fun s' (es : List Eff) => (true = true → regOk ⟨l⟩ es = true) ∧ Q .normal s') = fun s' es => regOk ⟨l⟩ es = true ∧ Q .normal s' := by
    funext s' es
    simp
  show RunL P T ⟨l⟩ l ⟨env, mem, live, ep + 1⟩ (fun s' (es : List Eff) => (true = true → regOk ⟨l⟩ es = true) ∧ Q .normal s')
  rw [this]
  exact h
theorem aw_cond {c : Operand} {x y : Code} {b : Bool} (hc : evalO (LSt.mk env mem live ep).den c = some (.dat (.bool b))) (h1 : b = true → AWp P T N x Q ⟨env, mem, live, ep⟩) (h2 : b = false → AWp P T N y Q ⟨env, mem, live, ep⟩) : AWp P T N (.cond c x y) Q ⟨env, mem, live, ep⟩ := by
  unfold AWp
  rw [hc]
  exact ⟨h1, h2⟩
theorem aw_condT {c : Operand} {x y : Code} (hc : evalO (LSt.mk env mem live ep).den c = some (.dat (.bool true))) (h1 : AWp P T N x Q ⟨env, mem, live, ep⟩) : AWp P T N (.cond c x y) Q ⟨env, mem, live, ep⟩ :=
  aw_cond hc (fun _ => h1) (fun q => by cases q)
theorem aw_condF {c : Operand} {x y : Code} (hc : evalO (LSt.mk env mem live ep).den c = some (.dat (.bool false))) (h1 : AWp P T N y Q ⟨env, mem, live, ep⟩) : AWp P T N (.cond c x y) Q ⟨env, mem, live, ep⟩ :=
  aw_cond hc (fun q => by cases q) (fun _ => h1)
theorem aw_loop {body : Code} (I : Nat → LSt → Prop) (n : Nat) (s0 : LSt) (h0 : s0.le s) (h1 : I n s0) (h : ∀ n s, I n s → AWp P T N body (thenQ (fun s' => ∃ m s'', m < n ∧ s''.le s' ∧ I m s'') Q) s) : AWp P T N (.loop body) Q s := ⟨I, n, s0, h0, h1, h⟩

theorem tq_n {next : LSt → Prop} (h : next s) : thenQ next Q .normal s := h
theorem tq_x {next : LSt → Prop} {i : Nat} (h : Q (.exit i) s) : thenQ next Q (.exit i) s := h
theorem tq_r {next : LSt → Prop} (h : Q .ret s) : thenQ next Q .ret s := h
theorem bq_n {i : Nat} (h : Q .normal s) : blockQ i Q .normal s := h
theorem bq_r {i : Nat} (h : Q .ret s) : blockQ i Q .ret s := h
theorem bq_x {i : Nat} (h : Q .normal s) : blockQ i Q (.exit i) s := by simp [blockQ, h]
theorem bq_o {i j : Nat} (hn : (j == i) = false) (h : Q (.exit j) s) : blockQ i Q (.exit j) s := by
  have : j ≠ i := by simpa using hn
  simp [blockQ, this, h]
theorem fq_n {fn : Func} {R : DV → Prop} {d : DV} (h : resF T s fn.results.toList = some d) (hr : R d) : fnQ T fn R .normal s := ⟨d, h, hr⟩
theorem fq_r {fn : Func} {R : DV → Prop} {d : DV} (h : resF T s fn.results.toList = some d) (hr : R d) : fnQ T fn R .ret s := ⟨d, h, hr⟩

/-- A comparison's bool, by a name of its own. -/
theorem rl_binB {bo : BinOp} {t t2 ty : TypeId} {x y : Operand} {pos : String} {after : Array Edge} {b0 : Bool} (h : opOut T { dst := some d, op := .binOp bo t x y t2, type := ty, pos := pos, after := after, guard := none } (LSt.mk env mem live ep).den = .eff { val := .dat (.bool b0) })
    (hk : ∀ b, b0 = b → RunL P T ops l ⟨(d, .dat (.bool b)) :: env, mem, live, ep⟩ fun s' es => K s' ({ val := .dat (.bool b) } :: es)) : RunL P T ops ({ dst := some d, op := .binOp bo t x y t2, type := ty, pos := pos, after := after, guard := none } :: l) ⟨env, mem, live, ep⟩ K :=
  rl_bool rfl rfl h hk
theorem rl_extB {x : Operand} {i : Nat} {ty : TypeId} {pos : String} {after : Array Edge} {b0 : Bool} (h : opOut T { dst := some d, op := .extract x i, type := ty, pos := pos, after := after, guard := none } (LSt.mk env mem live ep).den = .eff { val := .dat (.bool b0) })
    (hk : ∀ b, b0 = b → RunL P T ops l ⟨(d, .dat (.bool b)) :: env, mem, live, ep⟩ fun s' es => K s' ({ val := .dat (.bool b) } :: es)) : RunL P T ops ({ dst := some d, op := .extract x i, type := ty, pos := pos, after := after, guard := none } :: l) ⟨env, mem, live, ep⟩ K :=
  rl_bool rfl rfl h hk
theorem rl_callB {g : FuncId} {args : List PV} {ds : List DV} {b0 : Bool} (hc : CallsD P g ds (.bool b0)) (hg : o.guard = none) (hd : o.dst = some d) (h : opOut T o (LSt.mk env mem live ep).den = .call g args) (ha : argOk args ds)
    (hk : ∀ b, b0 = b → RunL P T ops l ⟨(d, .dat (.bool b)) :: env, mem, live, ep⟩ fun s' es => K s' ({ val := .dat (.bool b) } :: es)) : RunL P T ops (o :: l) ⟨env, mem, live, ep⟩ K :=
  rl_call hc hg hd h ha (hk _ rfl)
theorem aw_condN {c : Operand} {x y : Code} {b : Bool} (hc : evalO (LSt.mk env mem live ep).den c = some (.dat (.bool (!b)))) (h1 : b = false → AWp P T N x Q ⟨env, mem, live, ep⟩) (h2 : b = true → AWp P T N y Q ⟨env, mem, live, ep⟩) : AWp P T N (.cond c x y) Q ⟨env, mem, live, ep⟩ :=
  aw_cond hc (fun q => h1 (by cases b; rfl; cases q)) (fun q => h2 (by cases b; cases q; rfl))

def entE : List (Nat × PV) → List (Nat × PV) → Prop
  | [], _ => True
  | (k, v) :: r, e => lookE e k = some v ∧ entE r e
def entM : List (Key × List PV) → List (Key × List PV) → Prop
  | [], _ => True
  | (k, v) :: r, e => lookM e k = some v ∧ entM r e
def entB : List (Key × Bool) → List (Key × Bool) → Prop
  | [], _ => True
  | (k, v) :: r, e => lookB e k = v ∧ entB r e

theorem le_of {env' : List (Nat × PV)} {mem' : List (Key × List PV)} {live' : List (Key × Bool)} {ep' : Nat} (h1 : entE env' env) (h2 : entM mem' mem) (h3 : entB live' live) (h4 : ep ≤ ep') : LSt.le ⟨env', mem', live', ep'⟩ ⟨env, mem, live, ep⟩ := by
  refine ⟨?_, ?_, ?_, h4⟩
  · intro t v hv
    show lookE env t = some v
    have hv : lookE env' t = some v := hv
    clear h2 h3
    induction env' with
    | nil => cases hv
    | cons p r ih =>
      obtain ⟨k, x⟩ := p
      unfold lookE at hv
      split at hv
      · rename_i q; rw [q, h1.1]; exact hv
      · exact ih h1.2 hv hv
  · intro t v hv
    show lookM mem t = some v
    have hv : lookM mem' t = some v := hv
    clear h1 h3
    induction mem' with
    | nil => cases hv
    | cons p r ih =>
      obtain ⟨k, x⟩ := p
      unfold lookM at hv
      split at hv
      · rename_i q; rw [q, h2.1]; exact hv
      · exact ih h2.2 hv hv
  · intro t hv
    show lookB live t = true
    have hv : lookB live' t = true := hv
    clear h1 h2
    induction live' with
    | nil => cases hv
    | cons p r ih =>
      obtain ⟨k, x⟩ := p
      unfold lookB at hv
      split at hv
      · rename_i q; rw [q, h3.1]; exact hv
      · exact ih h3.2 hv hv

/-- A loop, by what goes on in it. -/
theorem aw_loopX {α : Type} {body : Code} (S : α → Nat → LSt) (I : α → Prop) (μ : α → Nat) (x0 : α) (e0 : Nat) (h0 : (S x0 e0).le s) (hI : I x0)
    (h : ∀ x e, I x → AWp P T N body (thenQ (fun s' => ∃ y e', μ y < μ x ∧ (S y e').le s' ∧ I y) Q) (S x e)) : AWp P T N (.loop body) Q s := by
  refine aw_loop (fun n t => ∃ x e, μ x = n ∧ t = S x e ∧ I x) (μ x0) (S x0 e0) h0 ⟨x0, e0, rfl, rfl, hI⟩ ?_
  rintro n t ⟨x, e, rfl, rfl, hx⟩
  have := h x e hx
  have e1 : (fun s' => ∃ y e', μ y < μ x ∧ (S y e').le s' ∧ I y) = fun s' => ∃ m s'', m < μ x ∧ s''.le s' ∧ ∃ y e, μ y = m ∧ s'' = S y e ∧ I y := by
    funext s'
    exact propext ⟨fun ⟨y, e', a, b, c⟩ => ⟨μ y, S y e', a, b, y, e', rfl, rfl, c⟩, fun ⟨m, s'', a, b, y, e', c, d, f⟩ => ⟨y, e', by omega, by rw [← d]; exact b, f⟩⟩
  rw [e1] at this
  exact this

/-- Reckoning that stays in its bounds. -/
theorem rl_binW {bo : BinOp} {t t2 ty : TypeId} {x y : Operand} {pos : String} {after : Array Edge} {n : Int} (h : opOut T { dst := some d, op := .binOp bo t x y t2, type := ty, pos := pos, after := after, guard := none } (LSt.mk env mem live ep).den = .eff { val := .dat (.int .i64 (IntKind.wrap .i64 n)) })
    (hn : -9223372036854775808 ≤ n ∧ n ≤ 9223372036854775807)
    (hk : RunL P T ops l ⟨(d, .dat (.int .i64 n)) :: env, mem, live, ep⟩ fun s' es => K s' ({ val := .dat (.int .i64 n) } :: es)) : RunL P T ops ({ dst := some d, op := .binOp bo t x y t2, type := ty, pos := pos, after := after, guard := none } :: l) ⟨env, mem, live, ep⟩ K := by
  have hw : IntKind.wrap .i64 n = n := by rw [IntKind.wrap_i64]; omega
  rw [hw] at h
  exact rl_val rfl rfl h hk

theorem maxLen_eq : maxLen = 9223372036854775807 := rfl

theorem rl_idx {z : List UInt8} {n : Int} (hg : o.guard = none) (hd : o.dst = some d) (h : opOut T o (LSt.mk env mem live ep).den = .byte (fun b => 0 ≤ n ∧ z[n.toNat]? = some b) (fun b => { val := .dat (.int .u8 b.toNat) }))
    (hp : 0 ≤ n ∧ n.toNat < z.length)
    (hk : ∀ c : UInt8, z[n.toNat]? = some c → RunL P T ops l ⟨(d, .dat (.int .u8 c.toNat)) :: env, mem, live, ep⟩ fun s' es => K s' ({ val := .dat (.int .u8 c.toNat) } :: es)) : RunL P T ops (o :: l) ⟨env, mem, live, ep⟩ K := by
  have hc : z[n.toNat]? = some z[n.toNat] := by simp [hp.2]
  exact rl_byte _ hg hd h ⟨hp.1, hc⟩ rfl (hk _ hc)

/-- An element of a row of things alike. -/
theorem rl_elt {α : Type} {L : List α} {enc : α → List DV} {n : Int} (hg : o.guard = none) (hd : o.dst = some d) (h : opOut T o (LSt.mk env mem live ep).den = .row (fun cs => 0 ≤ n ∧ (L.map enc)[n.toNat]? = some cs) (fun cs => { val := .dat (.ip cs 0) }))
    (hp : 0 ≤ n ∧ n.toNat < L.length)
    (hk : ∀ x : α, L[n.toNat]? = some x → RunL P T ops l ⟨(d, .dat (.ip (enc x) 0)) :: env, mem, live, ep⟩ fun s' es => K s' ({ val := .dat (.ip (enc x) 0) } :: es)) : RunL P T ops (o :: l) ⟨env, mem, live, ep⟩ K := by
  have hc : L[n.toNat]? = some L[n.toNat] := by simp [hp.2]
  exact rl_row (enc L[n.toNat]) hg hd h ⟨hp.1, by rw [List.getElem?_map, hc]; rfl⟩ rfl (hk _ hc)

/-- Which kind of goal is it? -/
theorem is_run (h : RunL P T ops l s K) : RunL P T ops l s K := h
theorem is_cons (h : RunL P T ops (o :: l) s K) : RunL P T ops (o :: l) s K := h
theorem is_aw {c : Code} (h : AWp P T N c Q s) : AWp P T N c Q s := h
theorem is_tq {next : LSt → Prop} {e : Exit} (h : thenQ next Q e s) : thenQ next Q e s := h
theorem is_g {p : Nat × Bool} {dst : Option Nat} {op : Op} {ty : TypeId} {pos : String} {after : Array Edge} (h : RunL P T ops ({ dst := dst, op := op, type := ty, pos := pos, after := after, guard := some p } :: l) s K) : RunL P T ops ({ dst := dst, op := op, type := ty, pos := pos, after := after, guard := some p } :: l) s K := h

theorem lookM_hd {k : Key} {v : List PV} {r : List (Key × List PV)} : lookM ((k, v) :: r) k = some v := by simp [lookM]
theorem lookM_sl {k k' : Key} {v : List PV} {r : List (Key × List PV)} {x : Option (List PV)} (h : (k'.1 == k.1) = false) (hr : lookM r k' = x) : lookM ((k, v) :: r) k' = x := by
  have : k' ≠ k := fun e => by rw [e] at h; simp at h
  simp [lookM, this, hr]
theorem lookB_hd {k : Key} {v : Bool} {r : List (Key × Bool)} : lookB ((k, v) :: r) k = v := by simp [lookB]
theorem lookB_sl {k k' : Key} {v x : Bool} {r : List (Key × Bool)} (h : (k'.1 == k.1) = false) (hr : lookB r k' = x) : lookB ((k, v) :: r) k' = x := by
  have : k' ≠ k := fun e => by rw [e] at h; simp at h
  simp [lookB, this, hr]

theorem half_eq (n : Nat) (hn : n ≤ 9223372036854775807) : IntKind.i64.wrap ((n : Int).tdiv 2) = ((n / 2 : Nat) : Int) := by
  have : (n : Int).tdiv 2 = ((n / 2 : Nat) : Int) := rfl
  rw [this, IntKind.wrap_i64]
  omega
/-- Half of a number that is not below zero. -/
theorem rl_half {t t2 ty : TypeId} {x y : Operand} {pos : String} {after : Array Edge} {n : Nat} (h : opOut T { dst := some d, op := .binOp .quo t x y t2, type := ty, pos := pos, after := after, guard := none } (LSt.mk env mem live ep).den = .eff { val := .dat (.int .i64 (IntKind.wrap .i64 ((n : Int).tdiv 2))) })
    (hn : n ≤ 9223372036854775807)
    (hk : RunL P T ops l ⟨(d, .dat (.int .i64 (n / 2 : Nat))) :: env, mem, live, ep⟩ fun s' es => K s' ({ val := .dat (.int .i64 (n / 2 : Nat)) } :: es)) : RunL P T ops ({ dst := some d, op := .binOp .quo t x y t2, type := ty, pos := pos, after := after, guard := none } :: l) ⟨env, mem, live, ep⟩ K := by
  rw [half_eq n hn] at h
  exact rl_val rfl rfl h hk

theorem rl_binT {bo : BinOp} {t t2 ty : TypeId} {x y : Operand} {pos : String} {after : Array Edge} (h : opOut T { dst := some d, op := .binOp bo t x y t2, type := ty, pos := pos, after := after, guard := none } (LSt.mk env mem live ep).den = .eff { val := .dat (.bool true) })
    (hk : RunL P T ops l ⟨(d, .dat (.bool true)) :: env, mem, live, ep⟩ fun s' es => K s' ({ val := .dat (.bool true) } :: es)) : RunL P T ops ({ dst := some d, op := .binOp bo t x y t2, type := ty, pos := pos, after := after, guard := none } :: l) ⟨env, mem, live, ep⟩ K :=
  rl_val rfl rfl h hk
theorem rl_binF {bo : BinOp} {t t2 ty : TypeId} {x y : Operand} {pos : String} {after : Array Edge} (h : opOut T { dst := some d, op := .binOp bo t x y t2, type := ty, pos := pos, after := after, guard := none } (LSt.mk env mem live ep).den = .eff { val := .dat (.bool false) })
    (hk : RunL P T ops l ⟨(d, .dat (.bool false)) :: env, mem, live, ep⟩ fun s' es => K s' ({ val := .dat (.bool false) } :: es)) : RunL P T ops ({ dst := some d, op := .binOp bo t x y t2, type := ty, pos := pos, after := after, guard := none } :: l) ⟨env, mem, live, ep⟩ K :=
  rl_val rfl rfl h hk
end
end Go.Proofs.Ytehhgamkijkjgaa.AM
