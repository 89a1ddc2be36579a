/- The abstract machine (12): regions: a lexical run; which operations are apart; states of any order. -/
import Derived.Test.YtehhgamkijkjgaaAmK
namespace Go.Proofs.Ytehhgamkijkjgaa.AM
open Go.RowKit
set_option linter.unusedVariables false
set_option linter.unusedSimpArgs false
set_option linter.unusedSectionVars false

def skipE : Eff := { val := unitP }

/-- An operation with its guard. -/
def StepK (P : Program) (T : Tab) (ops : Array Oper) (o : Oper) (σ : St) (K : Eff → Prop) : Prop :=
  match o.guard with
  | none => OpK P T true o σ K
  | some (j, want) =>
    match ((ops[j]?).bind (·.dst)).bind σ.env with
    | some (.dat (.bool b)) => (b = want → OpK P T true o σ K) ∧ (b = !want → K skipE)
    | some (.dat (.tup [])) => K skipE
    | _ => False

/-- The same, as what is told of one effect. -/
def StepR (P : Program) (T : Tab) (ops : Array Oper) (o : Oper) (σ : St) (e : Eff) : Prop :=
  match o.guard with
  | none => OpR P T o σ e
  | some (j, want) =>
    match ((ops[j]?).bind (·.dst)).bind σ.env with
    | some (.dat (.bool b)) => (b = want ∧ OpR P T o σ e) ∨ (b = !want ∧ e = skipE)
    | some (.dat (.tup [])) => e = skipE
    | _ => False

/-- A region's operations, one behind the other. -/
def RunK (P : Program) (T : Tab) (ops : Array Oper) : List Oper → St → (St → List Eff → Prop) → Prop
  | [], σ, K => K σ []
  | o :: l, σ, K => StepK P T ops o σ fun e => RunK P T ops l (e.app o.dst σ) fun σ' es => K σ' (e :: es)

/-! ### Footprints -/

def Eff.rdS (e : Eff) : List Nat := e.rd.map (·.1)
def Eff.wrS (d : Option Nat) (e : Eff) : List Nat := e.wr.map (·.1.1) ++ (match e.al with | [] => [] | _ => [d.getD 0])
def Eff.tgS (d : Option Nat) (e : Eff) : List Nat := e.use.map (·.1) ++ (match e.nw with | [] => [] | _ => [d.getD 0])

def disj (xs ys : List Nat) : Bool := xs.all fun x => !ys.contains x

theorem disj_spec {xs ys : List Nat} (h : disj xs ys = true) : ∀ x, x ∈ xs → x ∉ ys := by
  intro x hx hy
  simp only [disj, List.all_eq_true] at h
  have := h x hx
  simp [hy] at this

def apartE (ops : Array Oper) (oi oj : Oper) (ei ej : Eff) : Bool :=
  Oper.apart ops oi oj && disj (ei.wrS oi.dst) (ej.rdS ++ ej.wrS oj.dst) && disj ei.rdS (ej.wrS oj.dst) && disj (ei.tgS oi.dst) (ej.tgS oj.dst)

/-- Which operations surely come before one, as bits. -/
def bits (acc : List Nat) : List Edge → Nat
  | [] => 0
  | e :: r => if Region.binds .any e then (2 ^ e.on ||| acc.getD e.on 0) ||| bits acc r else bits acc r

def befs : List Oper → List Nat → List Nat
  | [], acc => acc
  | o :: r, acc => befs r (acc ++ [bits acc o.after.toList])

def fwdOk : List Oper → Nat → Bool
  | [], _ => true
  | o :: r, n => (o.after.toList.all fun e => !Region.binds .any e || decide (e.on < n)) && fwdOk r (n + 1)

/-- A region that may run in any order as well as in its text's: each two operations wait one for the other, or are apart. -/
def regOk (ops : Array Oper) (es : List Eff) : Bool :=
  fwdOk ops.toList 0 &&
  (let bf := befs ops.toList []
   (List.range ops.size).all fun j => (List.range j).all fun i =>
    (bf.getD j 0).testBit i ||
    match ops[i]?, ops[j]?, es[i]?, es[j]? with
    | some oi, some oj, some ei, some ej => apartE ops oi oj ei ej
    | _, _, _, _ => false)

/-! ### Effects that are apart change places -/

theorem wrMem_miss : ∀ {l : List (Key × List PV)} {m : Key → Option (List PV)} {k : Key}, (∀ p ∈ l, p.1.1 ≠ k.1) → wrMem l m k = m k
  | [], _, _, _ => rfl
  | (k', cs) :: r, m, k, h => by
    rw [wrMem, wrMem_miss (fun p hp => h p (by simp [hp])), upd_ne]
    exact fun e => h (k', cs) (by simp) (by rw [e])

theorem wrMem_congr : ∀ {l : List (Key × List PV)} {m m' : Key → Option (List PV)} {k : Key}, m k = m' k → wrMem l m k = wrMem l m' k
  | [], _, _, _, h => h
  | (k', cs) :: r, m, m', k, h => by
    rw [wrMem, wrMem]
    apply wrMem_congr
    unfold upd
    split
    · rfl
    · exact h

theorem app_mem_miss {d : Option Nat} {e : Eff} {σ : St} {k : Key} (h : k.1 ∉ e.wrS d) : (e.app d σ).mem k = σ.mem k := by
  unfold Eff.wrS at h
  simp only [List.mem_append, not_or] at h
  show wrMem e.wr (wrMem (e.alKeys (d.getD 0) σ.ep) σ.mem) k = _
  rw [wrMem_miss (fun p hp q => h.1 (List.mem_map.2 ⟨p, hp, q⟩)), wrMem_miss]
  intro p hp q
  simp only [Eff.alKeys, List.mem_map] at hp
  obtain ⟨⟨i, cs⟩, hi, rfl⟩ := hp
  refine h.2 ?_
  cases ha : e.al with
  | nil => rw [ha] at hi; simp at hi
  | cons a r => simpa using q.symm

theorem app_mem_congr {d : Option Nat} {e : Eff} {σ σ' : St} {k : Key} (hep : σ.ep = σ'.ep) (h : σ.mem k = σ'.mem k) : (e.app d σ).mem k = (e.app d σ').mem k := by
  show wrMem e.wr (wrMem (e.alKeys (d.getD 0) σ.ep) σ.mem) k = wrMem e.wr (wrMem (e.alKeys (d.getD 0) σ'.ep) σ'.mem) k
  rw [hep]
  exact wrMem_congr (wrMem_congr h)

theorem setLive_eq' (v : Bool) (ks : List Key) (l : Key → Bool) (k : Key) : setLive v ks l k = if k ∈ ks then v else l k := setLive_eq v ks l k

theorem app_live_miss {d : Option Nat} {e : Eff} {σ : St} {k : Key} (h : k.1 ∉ e.tgS d) : (e.app d σ).live k = σ.live k := by
  unfold Eff.tgS at h
  simp only [List.mem_append, not_or] at h
  show setLive true (e.nwKeys (d.getD 0) σ.ep) (setLive false e.use σ.live) k = _
  rw [setLive_eq, if_neg, setLive_eq, if_neg]
  · exact fun q => h.1 (List.mem_map.2 ⟨k, q, rfl⟩)
  · intro q
    simp only [Eff.nwKeys, List.mem_map] at q
    obtain ⟨i, hi, rfl⟩ := q
    refine h.2 ?_
    cases ha : e.nw with
    | nil => rw [ha] at hi; simp at hi
    | cons a r => simp

theorem app_live_congr {d : Option Nat} {e : Eff} {σ σ' : St} {k : Key} (hep : σ.ep = σ'.ep) (h : σ.live k = σ'.live k) : (e.app d σ).live k = (e.app d σ').live k := by
  show setLive true (e.nwKeys (d.getD 0) σ.ep) (setLive false e.use σ.live) k = setLive true (e.nwKeys (d.getD 0) σ'.ep) (setLive false e.use σ'.live) k
  rw [setLive_eq, setLive_eq, setLive_eq, setLive_eq, hep, h]

theorem app_env_miss {d : Option Nat} {e : Eff} {σ : St} {t : Nat} (h : d ≠ some t) : (e.app d σ).env t = σ.env t := by
  cases d with
  | none => rfl
  | some d => exact upd_ne _ _ (fun q => h (by rw [q]))

theorem app_env_congr {d : Option Nat} {e : Eff} {σ σ' : St} {t : Nat} (h : σ.env t = σ'.env t) : (e.app d σ).env t = (e.app d σ').env t := by
  cases d with
  | none => exact h
  | some d =>
    show upd σ.env d _ t = upd σ'.env d _ t
    unfold upd
    split
    · rfl
    · exact h

theorem St.ext' {σ σ' : St} (h1 : ∀ t, σ.env t = σ'.env t) (h2 : ∀ k, σ.mem k = σ'.mem k) (h3 : ∀ k, σ.live k = σ'.live k) (h4 : σ.ep = σ'.ep) : σ = σ' := by
  cases σ; cases σ'
  simp only at h1 h2 h3 h4
  obtain rfl := funext h1
  obtain rfl := funext h2
  obtain rfl := funext h3
  subst h4
  rfl

/-- Two effects that change nothing in common. -/
def Comm (di : Option Nat) (ei : Eff) (dj : Option Nat) (ej : Eff) : Prop :=
  (∀ d, di = some d → dj ≠ some d) ∧ (∀ x, x ∈ ei.wrS di → x ∉ ej.wrS dj) ∧ ∀ x, x ∈ ei.tgS di → x ∉ ej.tgS dj

theorem app_comm {di dj : Option Nat} {ei ej : Eff} (h : Comm di ei dj ej) (σ : St) : ei.app di (ej.app dj σ) = ej.app dj (ei.app di σ) := by
  obtain ⟨h1, h2, h3⟩ := h
  refine St.ext' (fun t => ?_) (fun k => ?_) (fun k => ?_) rfl
  · by_cases q : di = some t
    · rw [app_env_miss (d := dj) (h1 t q)]
      exact app_env_congr (app_env_miss (h1 t q))
    · rw [app_env_miss q]
      exact app_env_congr (app_env_miss q).symm
  · by_cases q : k.1 ∈ ei.wrS di
    · rw [app_mem_miss (d := dj) (e := ej) (h2 _ q)]
      exact app_mem_congr rfl (app_mem_miss (h2 _ q))
    · rw [app_mem_miss q]
      exact app_mem_congr rfl (app_mem_miss q).symm
  · by_cases q : k.1 ∈ ei.tgS di
    · rw [app_live_miss (d := dj) (e := ej) (h3 _ q)]
      exact app_live_congr rfl (app_live_miss (h3 _ q))
    · rw [app_live_miss q]
      exact app_live_congr rfl (app_live_miss q).symm

/-! ### States of any order -/

/-- The state when just the operations of S have run. -/
def stS : List (Option Nat × Eff) → (Nat → Bool) → St → St
  | [], _, σ => σ
  | (d, e) :: r, S, σ => stS r (fun n => S (n + 1)) (if S 0 = true then e.app d σ else σ)

theorem stS_ep : ∀ (tr : List (Option Nat × Eff)) (S : Nat → Bool) (σ : St), (stS tr S σ).ep = σ.ep
  | [], _, _ => rfl
  | (d, e) :: r, S, σ => by rw [stS, stS_ep r]; split <;> rfl

theorem stS_env : ∀ (tr : List (Option Nat × Eff)) (S S' : Nat → Bool) (σ σ' : St) (t : Nat), σ.env t = σ'.env t → (∀ (j : Nat) (e : Eff), tr[j]? = some (some t, e) → S j = S' j) → (stS tr S σ).env t = (stS tr S' σ').env t
  | [], _, _, _, _, _, h, _ => h
  | (d, e) :: r, S, S', σ, σ', t, h, hj => by
    rw [stS, stS]
    refine stS_env r _ _ _ _ t ?_ (fun j e he => hj (j + 1) e he)
    by_cases q : d = some t
    · subst q
      rw [hj 0 e rfl]
      split
      · exact app_env_congr h
      · exact h
    · split <;> split <;> simp only [app_env_miss q, h]

theorem stS_mem : ∀ (tr : List (Option Nat × Eff)) (S S' : Nat → Bool) (σ σ' : St) (k : Key), σ.ep = σ'.ep → σ.mem k = σ'.mem k → (∀ (j : Nat) (d : Option Nat) (e : Eff), tr[j]? = some (d, e) → k.1 ∈ e.wrS d → S j = S' j) → (stS tr S σ).mem k = (stS tr S' σ').mem k
  | [], _, _, _, _, _, _, h, _ => h
  | (d, e) :: r, S, S', σ, σ', k, hep, h, hj => by
    rw [stS, stS]
    refine stS_mem r _ _ _ _ k (by split <;> split <;> exact hep) ?_ (fun j d e he => hj (j + 1) d e he)
    by_cases q : k.1 ∈ e.wrS d
    · rw [hj 0 d e rfl q]
      split
      · exact app_mem_congr hep h
      · exact h
    · split <;> split <;> simp only [app_mem_miss q, h]

theorem stS_live : ∀ (tr : List (Option Nat × Eff)) (S S' : Nat → Bool) (σ σ' : St) (k : Key), σ.ep = σ'.ep → σ.live k = σ'.live k → (∀ (j : Nat) (d : Option Nat) (e : Eff), tr[j]? = some (d, e) → k.1 ∈ e.tgS d → S j = S' j) → (stS tr S σ).live k = (stS tr S' σ').live k
  | [], _, _, _, _, _, _, h, _ => h
  | (d, e) :: r, S, S', σ, σ', k, hep, h, hj => by
    rw [stS, stS]
    refine stS_live r _ _ _ _ k (by split <;> split <;> exact hep) ?_ (fun j d e he => hj (j + 1) d e he)
    by_cases q : k.1 ∈ e.tgS d
    · rw [hj 0 d e rfl q]
      split
      · exact app_live_congr hep h
      · exact h
    · split <;> split <;> simp only [app_live_miss q, h]

theorem app_stS (d : Option Nat) (e : Eff) : ∀ (tr : List (Option Nat × Eff)) (S : Nat → Bool) (σ : St), (∀ (j : Nat) (d' : Option Nat) (e' : Eff), tr[j]? = some (d', e') → S j = true → Comm d e d' e') → e.app d (stS tr S σ) = stS tr S (e.app d σ)
  | [], _, _, _ => rfl
  | (d', e') :: r, S, σ, h => by
    rw [stS, stS, app_stS d e r _ _ (fun j d'' e'' hj hs => h (j + 1) d'' e'' hj hs)]
    congr 1
    split
    · rename_i hs; exact app_comm (h 0 d' e' rfl hs) σ
    · rfl

/-- One operation more. -/
theorem stS_add : ∀ (tr : List (Option Nat × Eff)) (S : Nat → Bool) (σ : St) (i : Nat) (d : Option Nat) (e : Eff), tr[i]? = some (d, e) → S i = false →
    (∀ (j : Nat) (d' : Option Nat) (e' : Eff), i < j → tr[j]? = some (d', e') → S j = true → Comm d e d' e') → e.app d (stS tr S σ) = stS tr (fun n => if n = i then true else S n) σ
  | [], _, _, i, _, _, h, _, _ => by simp at h
  | (d', e') :: r, S, σ, 0, d, e, h, hS, hc => by
    simp only [List.getElem?_cons_zero, Option.some.injEq, Prod.mk.injEq] at h
    obtain ⟨rfl, rfl⟩ := h
    rw [stS, stS]
    simp only [hS, if_true, Bool.false_eq_true, if_false]
    rw [app_stS d' e' r _ _ (fun j d'' e'' hj hs => hc (j + 1) d'' e'' (by omega) hj hs)]
    congr 1
  | (d', e') :: r, S, σ, i + 1, d, e, h, hS, hc => by
    rw [stS, stS, stS_add r (fun n => S (n + 1)) _ i d e h hS (fun j d'' e'' hij hj hs => hc (j + 1) d'' e'' (by omega) hj hs)]
    have h0 : (if (0 : Nat) = i + 1 then true else S 0) = S 0 := by simp
    rw [h0]
    congr 1
    funext n
    by_cases q : n = i
    · subst q; simp
    · simp [q]

end Go.Proofs.Ytehhgamkijkjgaa.AM
