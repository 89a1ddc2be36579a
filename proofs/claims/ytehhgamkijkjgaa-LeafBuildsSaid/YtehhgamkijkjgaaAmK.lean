/- The abstract machine (11): an operation's effect hangs on what it reads alone; effects that are apart change places. -/
import Derived.Test.YtehhgamkijkjgaaAmJ
namespace Go.Proofs.Ytehhgamkijkjgaa.AM
open Go.RowKit
set_option linter.unusedVariables false
set_option linter.unusedSimpArgs false
set_option linter.unusedSectionVars false

/-- The effect of an operation. -/
def OpR (P : Program) (T : Tab) (o : Oper) (σ : St) (e : Eff) : Prop := OpK P T false o σ fun e' => e' = e

section
variable {P : Program} {T : Tab} {o : Oper} {σ σ' : St} {K : Eff → Prop}

theorem OpK_both (h : OpK P T true o σ K) : OpK P T true o σ fun e => OpR P T o σ e ∧ K e := by
  unfold OpR
  unfold OpK at h ⊢
  generalize opOut T o σ = out at h ⊢
  cases out with
  | no => exact h
  | eff e => exact ⟨rfl, h⟩
  | gated p e => exact fun hp => ⟨⟨hp, rfl⟩, h hp⟩
  | need p e => exact ⟨h.1, ⟨h.1, rfl⟩, h.2⟩
  | two t x y =>
    cases t with
    | true =>
      refine ⟨fun _ => ?_, (fun q => by cases q)⟩
      have h := h.1 rfl
      cases x with
      | none => exact h
      | some v => exact ⟨⟨fun _ => rfl, (fun q => by cases q)⟩, h⟩
    | false =>
      refine ⟨(fun q => by cases q), fun _ => ?_⟩
      have h := h.2 rfl
      cases y with
      | none => exact h
      | some v => exact ⟨⟨(fun q => by cases q), fun _ => rfl⟩, h⟩
  | row p e => obtain ⟨cs, h1, h2⟩ := h; exact ⟨cs, h1, ⟨cs, h1, rfl⟩, h2⟩
  | byte p e => obtain ⟨cs, h1, h2⟩ := h; exact ⟨cs, h1, ⟨cs, h1, rfl⟩, h2⟩
  | box k f =>
    simp only [Out.holds] at h ⊢
    cases hm : σ.mem k with
    | none => rw [hm] at h; exact h
    | some cs =>
      rw [hm] at h
      simp only at h ⊢
      cases hf : f cs with
      | none => rw [hf] at h; exact h
      | some e => rw [hf] at h; simp only [hf] at h ⊢; exact ⟨trivial, h⟩
  | own τ p e => exact ⟨h.1, h.2.1, ⟨h.1, h.2.1, rfl⟩, h.2.2⟩
  | call f args => obtain ⟨d, rdm, e, h1, h2, h3, h4, h5⟩ := h; exact ⟨d, rdm, e, h1, h2, h3, h4, ⟨d, rdm, e, h1, h2, h3, h4, rfl⟩, h5⟩

theorem OpK_mono {K' : Eff → Prop} {b : Bool} (hk : ∀ e, K e → K' e) (h : OpK P T b o σ K) : OpK P T b o σ K' := by
  unfold OpK at h ⊢
  generalize opOut T o σ = out at h ⊢
  cases out with
  | no => exact h
  | eff e => exact hk _ h
  | gated p e =>
    cases b with
    | true => exact fun hp => hk _ (h hp)
    | false => exact ⟨h.1, hk _ h.2⟩
  | need p e => exact ⟨h.1, hk _ h.2⟩
  | two t x y =>
    refine ⟨fun q => ?_, fun q => ?_⟩
    · have h := h.1 q
      cases x with
      | none => exact h
      | some v => exact hk _ h
    · have h := h.2 q
      cases y with
      | none => exact h
      | some v => exact hk _ h
  | row p e => obtain ⟨cs, h1, h2⟩ := h; exact ⟨cs, h1, hk _ h2⟩
  | byte p e => obtain ⟨cs, h1, h2⟩ := h; exact ⟨cs, h1, hk _ h2⟩
  | box k f =>
    simp only [Out.holds] at h ⊢
    split at h
    · split at h
      · exact hk _ h
      · exact h
    · exact h
  | own τ p e => exact ⟨h.1, h.2.1, hk _ h.2.2⟩
  | call f args => obtain ⟨d, rdm, e, h1, h2, h3, h4, h5⟩ := h; exact ⟨d, rdm, e, h1, h2, h3, h4, hk _ h5⟩

/-- What is told for sure may be used as a step. -/
theorem OpR_true {e : Eff} (h : OpR P T o σ e) : OpK P T true o σ fun e' => e' = e := by
  unfold OpR at h
  unfold OpK at h ⊢
  generalize opOut T o σ = out at h ⊢
  cases out <;> first | exact h | exact fun _ => h.2

/-! ### What it hangs on -/

theorem evalD_congr {x : Operand} (h : evalO σ x = evalO σ' x) : evalD σ x = evalD σ' x := by unfold evalD; rw [h]

theorem wordO_congr {x : Option Operand} {d : Int} (h : ∀ y, x = some y → evalO σ y = evalO σ' y) : wordO σ x d = wordO σ' x d := by
  cases x with
  | none => rfl
  | some y => simp only [wordO, evalD_congr (h y rfl)]

theorem argsP_congr : ∀ {l : List Operand}, (∀ x ∈ l, evalO σ x = evalO σ' x) → argsP σ l = argsP σ' l
  | [], _ => rfl
  | x :: r, h => by unfold argsP; rw [h x (by simp), argsP_congr (l := r) (fun y hy => h y (by simp [hy]))]

theorem layP_congr {fs : List (Nat × Nat × Bool)} : ∀ {l : List (Nat × Operand)} {cs : List PV}, (∀ x ∈ l, evalO σ x.2 = evalO σ' x.2) → layP fs σ l cs = layP fs σ' l cs
  | [], _, _ => rfl
  | (k, x) :: r, cs, h => by
    unfold layP
    rw [h (k, x) (by simp)]
    have ih := fun cs => layP_congr (fs := fs) (l := r) (cs := cs) (fun y hy => h y (by simp [hy]))
    simp only [ih]

theorem rowsP_congr {i : TyI} : ∀ {l : List (Nat × Operand)} {n : Nat}, (∀ x ∈ l, evalO σ x.2 = evalO σ' x.2) → rowsP i σ l n = rowsP i σ' l n
  | [], _, _ => rfl
  | (k, x) :: r, n, h => by
    unfold rowsP
    rw [h (k, x) (by simp)]
    have ih := fun n => rowsP_congr (i := i) (l := r) (n := n) (fun y hy => h y (by simp [hy]))
    simp only [ih]

theorem opOut_congr (hep : σ.ep = σ'.ep) (h : ∀ x ∈ o.op.operands.toList, evalO σ x = evalO σ' x) : opOut T o σ = opOut T o σ' := by
  obtain ⟨dst, op, type, pos, after, guard⟩ := o
  simp only at h
  cases op <;> simp only [Op.operands] at h <;> simp only [opOut, hep]
  case move x => rw [h x (by simp)]
  case assign x => rw [h x (by simp)]
  case pick c a b => rw [h c (by simp), h a (by simp), h b (by simp)]
  case box t x => rw [h x (by simp)]
  case build t parts =>
    have := fun fs cs => layP_congr (σ := σ) (σ' := σ') (fs := fs) (l := parts.toList) (cs := cs) (fun x hx => h x.2 (by simp; exact ⟨x.1, by simpa using hx⟩))
    simp only [this]
  case buildSlice t n parts =>
    have := fun i n => rowsP_congr (σ := σ) (σ' := σ') (i := i) (l := parts.toList) (n := n) (fun x hx => h x.2 (by simp; exact ⟨x.1, by simpa using hx⟩))
    simp only [this]
  case load t a => rw [h a (by simp)]
  case store t a x => rw [h a (by simp), h x (by simp)]
  case binOp op t x y t' => rw [evalD_congr (h x (by simp)), evalD_congr (h y (by simp))]
  case unOp op t x => cases op <;> simp only [evalD_congr (h x (by simp))]
  case fieldAddr t x f => rw [h x (by simp)]
  case field t x f => rw [evalD_congr (h x (by simp))]
  case indexAddr t x i => rw [evalD_congr (h x (by simp)), evalD_congr (h i (by simp))]
  case index t x i => rw [evalD_congr (h x (by simp)), evalD_congr (h i (by simp))]
  case extract x i => rw [h x (by simp)]
  case slice t x lo hi mx =>
    have hx := evalD_congr (h x (by simp))
    have hl := fun d => wordO_congr (σ := σ) (σ' := σ') (x := lo) (d := d) (fun y hy => h y (by simp [hy]))
    have hh := fun d => wordO_congr (σ := σ) (σ' := σ') (x := hi) (d := d) (fun y hy => h y (by simp [hy]))
    cases mx <;> simp only [hx, hl, hh]
  case makeInterface t x => rw [h x (by simp)]
  case makeFunc f first cap =>
    have := argsP_congr (σ := σ) (σ' := σ') (l := cap.toList) (fun x hx => h x (by simp; exact .inr (by simpa using hx)))
    cases f <;> simp only [this]
  case call c =>
    have ha := argsP_congr (σ := σ) (σ' := σ') (l := c.args.toList) (fun x hx => h x (by simp [Call.operands]; exact .inr (by simpa using hx)))
    cases hc : c.callee with
    | value f =>
      have hf := h f (by simp [Call.operands, hc])
      simp only [hf, ha]
    | builtin b => simp only [ha]
    | invoke r m => rfl

theorem OpR_congr {e : Eff} (hep : σ.ep = σ'.ep) (h : ∀ x ∈ o.op.operands.toList, evalO σ x = evalO σ' x) (hm : ∀ k ∈ e.rd, σ.mem k = σ'.mem k) (hl : ∀ τ ∈ e.use, σ.live τ = true → σ'.live τ = true)
    (hr : OpR P T o σ e) : OpR P T o σ' e := by
  unfold OpR OpK at hr ⊢
  rw [← opOut_congr (T := T) (o := o) hep h]
  generalize opOut T o σ = out at hr ⊢
  cases out with
  | no => exact hr
  | eff e => exact hr
  | gated p e => exact hr
  | need p e => exact hr
  | two t x y => exact hr
  | row p e => exact hr
  | byte p e => exact hr
  | box k f =>
    simp only [Out.holds] at hr ⊢
    cases hk : σ.mem k with
    | none => rw [hk] at hr; exact hr.elim
    | some cs =>
      rw [hk] at hr
      simp only at hr
      cases hf : f cs with
      | none => rw [hf] at hr; exact hr.elim
      | some e' =>
        rw [hf] at hr
        simp only at hr
        subst hr
        rw [← hm k (by simp), hk]
        simp only [hf]
  | own τ p e' =>
    obtain ⟨h1, h2, h3⟩ := hr
    subst h3
    exact ⟨hl τ (by simp) h1, h2, rfl⟩
  | call f args =>
    obtain ⟨d, rdm, e', h1, h2, h3, h4, h5⟩ := hr
    subst h5
    refine ⟨d, rdm, e', h1, fun p hp => ?_, fun τ hτ => hl τ hτ (h3 τ hτ), by rw [← hep]; exact h4, rfl⟩
    rw [← hm p.1 (by rw [h4.2.1]; exact List.mem_map.2 ⟨p, hp, rfl⟩)]
    exact h2 p hp

end
end Go.Proofs.Ytehhgamkijkjgaa.AM
