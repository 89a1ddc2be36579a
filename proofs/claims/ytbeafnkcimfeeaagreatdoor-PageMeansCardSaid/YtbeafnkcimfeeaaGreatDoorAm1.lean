/- Contracts of the functions and their models, by the abstract machine. -/
import Derived.WalkKit
import Derived.Below
import Derived.KernelRfl
import Derived.Laws.OwnMore
/- The abstract machine (1): data, what a value stands for, states and effects. -/
namespace Go.Proofs.YtbeafnkcimfeeaaGreatDoor.AM
set_option linter.unusedVariables false
set_option linter.unusedSimpArgs false
open Go.RowKit
set_option linter.unusedVariables false
inductive DV where
  | int (k : IntKind) (n : Int)
  | bool (b : Bool)
  | str (s : List UInt8)
  | nil (sz : Nat)
  | lst (sz : Nat) (es : List (List DV))
  | nilI
  | ifc (t : TypeId) (d : DV)
  | agg (cs : List DV)
  | tup (cs : List DV)
  | ip (cs : List DV) (off : Nat)
  | raw (v : Value)
abbrev Key := Nat × Nat × Nat
inductive PV where
  | dat (d : DV)
  | acc (τ : Key) (sz : Nat) (es : List (List DV))
  | row (τ : Key) (sz : Nat)
  | ptr (k : Key) (off : Nat)
  | clo (f : FuncId) (fst : List PV) (cap : List PV)
  | mix (cs : List PV)
  | tup (cs : List PV)
  | ifp (t : TypeId) (v : PV)
  | any
abbrev Known := Nat → Nat → Option Value
inductive RepD (K : Known) : DV → Value → Prop where
  | int (k : IntKind) (n : Int) : RepD K (.int k n) (.int k n)
  | bool (b : Bool) : RepD K (.bool b) (.bool b)
  | str (l : List UInt8) (h : l.length ≤ maxLen) : RepD K (.str l) (.string ⟨l.toArray⟩)
  | nil (sz : Nat) : RepD K (.nil sz) (.slice none 0 0)
  | nils (sz : Nat) : RepD K (.lst sz []) (.slice none 0 0)
  | lst (sz : Nat) (es : List (List DV)) (b o cap : Nat) (f : Nat → Nat → Value) (h1 : es.length ≤ cap) (h2 : cap ≤ maxLen) (hs : ∀ e ∈ es, e.length = sz)
      (hk : ∀ (i : Nat) (e : List DV), es[i]? = some e → ∀ (j : Nat) (d : DV), e[j]? = some d → K b (o + i * sz + j) = some (f i j))
      (ho : ∀ (i : Nat) (e : List DV), es[i]? = some e → ∀ (j : Nat) (d : DV), e[j]? = some d → (f i j).oneCell' = true)
      (hr : ∀ (i : Nat) (e : List DV), es[i]? = some e → ∀ (j : Nat) (d : DV), e[j]? = some d → RepD K d (f i j)) :
      RepD K (.lst sz es) (.slice (some ⟨b, o, Option.none⟩) es.length cap)
  | emp (sz : Nat) (a : Addr) : RepD K (.lst sz []) (.slice (some a) 0 0)
  | nilI : RepD K .nilI .nilIface
  | ifc (t : TypeId) (d : DV) (v : Value) (h : RepD K d v) : RepD K (.ifc t d) (.iface t v)
  | agg (cs : List DV) (vs : Array Value) (hl : vs.size = cs.length) (ho : ∀ (j : Nat) (d : DV), cs[j]? = some d → (vs.getD j undef).oneCell' = true)
      (h : ∀ (j : Nat) (d : DV), cs[j]? = some d → RepD K d (vs.getD j undef)) : RepD K (.agg cs) (.agg vs)
  | tup (cs : List DV) (vs : Array Value) (hl : vs.size = cs.length)
      (h : ∀ (j : Nat) (d : DV), cs[j]? = some d → RepD K d (vs.getD j undef)) : RepD K (.tup cs) (.tuple vs)
  | ip (cs : List DV) (off b o : Nat) (f : Nat → Value) (hk : ∀ (j : Nat) (d : DV), cs[j]? = some d → K b (o + j) = some (f j))
      (ho : ∀ (j : Nat) (d : DV), cs[j]? = some d → (f j).oneCell' = true)
      (hr : ∀ (j : Nat) (d : DV), cs[j]? = some d → RepD K d (f j)) : RepD K (.ip cs off) (.pointer (some ⟨b, o + off, Option.none⟩))
  | raw (v : Value) : RepD K (.raw v) v
theorem RepD.mono {K K' : Known} (h : ∀ b o v, K b o = some v → K' b o = some v) {d : DV} {v : Value} (r : RepD K d v) : RepD K' d v := by
  induction r with
  | int => exact .int _ _
  | bool => exact .bool _
  | str l h => exact .str l h
  | nil => exact .nil _
  | nils => exact .nils _
  | emp sz a => exact .emp sz a
  | lst sz es b o cap f h1 h2 hs hk ho hr ih => exact .lst sz es b o cap f h1 h2 hs (fun i e he j d hd => h _ _ _ (hk i e he j d hd)) ho ih
  | nilI => exact .nilI
  | ifc t d v _ ih => exact .ifc t d v ih
  | agg cs vs hl ho _ ih => exact .agg cs vs hl ho ih
  | tup cs vs hl _ ih => exact .tup cs vs hl ih
  | ip cs off b o f hk ho _ ih => exact .ip cs off b o f (fun j d hd => h _ _ _ (hk j d hd)) ho ih
  | raw v => exact .raw v
structure Cfg where
  K : Known
  M : Key → Option Nat
  O : Key → Option (Value × TypeId × Nat)
structure Cfg.le (c c' : Cfg) : Prop where
  K : ∀ b o v, c.K b o = some v → c'.K b o = some v
  M : ∀ k b, c.M k = some b → c'.M k = some b
  O : ∀ k x, c.O k = some x → c'.O k = some x
theorem Cfg.le.refl (c : Cfg) : c.le c := ⟨fun _ _ _ h => h, fun _ _ h => h, fun _ _ h => h⟩
theorem Cfg.le.trans {a b c : Cfg} (h : a.le b) (k : b.le c) : a.le c :=
  ⟨fun _ _ _ x => k.K _ _ _ (h.K _ _ _ x), fun _ _ x => k.M _ _ (h.M _ _ x), fun _ _ x => k.O _ _ (h.O _ _ x)⟩
inductive RepP (c : Cfg) : PV → Value → Prop where
  | dat (d : DV) (x : Value) (h : RepD c.K d x) : RepP c (.dat d) x
  | acc (τ : Key) (sz : Nat) (es : List (List DV)) (x : Value) (e : TypeId) (ho : c.O τ = some (x, e, sz)) (h : RepD c.K (.lst sz es) x) : RepP c (.acc τ sz es) x
  | row (τ : Key) (sz : Nat) (x : Value) (e : TypeId) (ho : c.O τ = some (x, e, sz)) (h1 : x.oneCell' = true) : RepP c (.row τ sz) x
  | ptr (k : Key) (off b : Nat) (h : c.M k = some b) : RepP c (.ptr k off) (.pointer (some ⟨b, off, Option.none⟩))
  | clo (f : FuncId) (fst cap : List PV) (ys xs : Array Value) (hm : ys.size = fst.length) (hg : ∀ (j : Nat) (v : PV), fst[j]? = some v → RepP c v (ys.getD j undef))
      (hl : xs.size = cap.length) (h : ∀ (j : Nat) (v : PV), cap[j]? = some v → RepP c v (xs.getD j undef)) :
      RepP c (.clo f fst cap) (.func (.func f) ys xs)
  | mix (cs : List PV) (vs : Array Value) (hl : vs.size = cs.length) (ho : ∀ (j : Nat) (d : PV), cs[j]? = some d → (vs.getD j undef).oneCell' = true)
      (h : ∀ (j : Nat) (d : PV), cs[j]? = some d → RepP c d (vs.getD j undef)) : RepP c (.mix cs) (.agg vs)
  | tup (cs : List PV) (vs : Array Value) (hl : vs.size = cs.length)
      (h : ∀ (j : Nat) (d : PV), cs[j]? = some d → RepP c d (vs.getD j undef)) : RepP c (.tup cs) (.tuple vs)
  | ifp (t : TypeId) (v : PV) (x : Value) (h : RepP c v x) : RepP c (.ifp t v) (.iface t x)
  | any (x : Value) (h : x.oneCell' = true) : RepP c .any x
theorem RepP.mono {c c' : Cfg} (h : c.le c') {d : PV} {v : Value} (r : RepP c d v) : RepP c' d v := by
  induction r with
  | dat d x r => exact .dat d x (r.mono h.K)
  | acc τ sz es x e ho r => exact .acc τ sz es x e (h.O _ _ ho) (r.mono h.K)
  | row τ sz x e ho h1 => exact .row τ sz x e (h.O _ _ ho) h1
  | ptr k off b hm => exact .ptr k off b (h.M _ _ hm)
  | clo f fst cap ys xs hm _ hl _ ih1 ih2 => exact .clo f fst cap ys xs hm ih1 hl ih2
  | mix cs vs hl ho _ ih => exact .mix cs vs hl ho ih
  | tup cs vs hl _ ih => exact .tup cs vs hl ih
  | ifp t v x _ ih => exact .ifp t v x ih
  | any x h => exact .any x h
structure St where
  env : Nat → Option PV
  mem : Key → Option (List PV)
  live : Key → Bool
  ep : Nat
structure Eff where
  val : PV
  al : List (Nat × List PV) := []
  wr : List (Key × List PV) := []
  rd : List Key := []
  use : List Key := []
  nw : List Nat := []
  rm : List Key := []
def upd {α β : Type} [DecidableEq α] (f : α → β) (a : α) (b : β) : α → β := fun x => if x = a then b else f x
@[simp] theorem upd_same {α β : Type} [DecidableEq α] (f : α → β) (a : α) (b : β) : upd f a b a = b := by simp [upd]
theorem upd_ne {α β : Type} [DecidableEq α] (f : α → β) {a x : α} (b : β) (h : x ≠ a) : upd f a b x = f x := by simp [upd, h]
def wrMem : List (Key × List PV) → (Key → Option (List PV)) → Key → Option (List PV)
  | [], m => m
  | (k, cs) :: r, m => wrMem r (upd m k (some cs))
def rmMem : List Key → (Key → Option (List PV)) → Key → Option (List PV)
  | [], m => m
  | k :: r, m => rmMem r (upd m k none)
def setLive (v : Bool) : List Key → (Key → Bool) → Key → Bool
  | [], l => l
  | k :: r, l => setLive v r (upd l k v)
def Eff.alKeys (d ep : Nat) (e : Eff) : List (Key × List PV) := e.al.map fun (i, cs) => ((d, i, ep), cs)
def Eff.nwKeys (d ep : Nat) (e : Eff) : List Key := e.nw.map fun i => (d, i, ep)
def Eff.app (dst : Option Nat) (e : Eff) (σ : St) : St :=
  { env := match dst with | some d => upd σ.env d (some e.val) | none => σ.env
    mem := wrMem e.wr (wrMem (e.alKeys (dst.getD 0) σ.ep) (rmMem e.rm σ.mem))
    live := setLive true (e.nwKeys (dst.getD 0) σ.ep) (setLive false e.use σ.live)
    ep := σ.ep }
end Go.Proofs.YtbeafnkcimfeeaaGreatDoor.AM
/- What is known of package-level variables: of this seat, the one cell of errors.errorType. -/
namespace Go.Proofs.YtbeafnkcimfeeaaGreatDoor.AM
set_option linter.unusedVariables false
set_option linter.unusedSimpArgs false
open Go
def errT : Value := .iface 281 (.agg #[.pointer (some ⟨1, 32, none⟩)])
def GK (K : Known) : Prop := K 0 0 = some errT
theorem GK_mono {K K' : Known} (h : GK K) (hk : ∀ b o v, K b o = some v → K' b o = some v) : GK K' := hk 0 0 _ h
end Go.Proofs.YtbeafnkcimfeeaaGreatDoor.AM
/- The abstract machine (2): the table of types, what each operation does, contracts of calls. -/
namespace Go.Proofs.YtbeafnkcimfeeaaGreatDoor.AM
set_option linter.unusedVariables false
set_option linter.unusedSimpArgs false
open Go.RowKit
set_option linter.unusedVariables false
inductive Ty where
  | int (k : IntKind)
  | bool
  | str
  | slice (e : TypeId) (sz bytes : Nat)
  | struct (fs : List (Nat × Nat × Bool))
  | iface
  | ptr
  | fn
  | other
inductive EqK where
  | int (k : IntKind)
  | bool
  | str
structure TyI where
  ty : Ty
  size : Nat
  zero : List DV
  eqf : List EqK := []
structure Tab where
  f : TypeId → Option TyI
  m : Nat → Bool := fun _ => false
instance : CoeFun Tab fun _ => TypeId → Option TyI := ⟨Tab.f⟩
def Tab.md (T : Tab) : Option Nat → Bool
  | some d => T.m d
  | none => false
def tyOf (T : Tab) (t : TypeId) : Ty := match T t with | some i => i.ty | none => .other
def TyI.isAgg (i : TyI) : Bool := match i.ty with | .struct _ => true | _ => false
/-! ### Values -/
def asD1 : PV → Option DV
  | .dat d => some d
  | .acc _ sz es => some (.lst sz es)
  | _ => none
def allD1 : List PV → Option (List DV)
  | [] => some []
  | v :: r => match asD1 v, allD1 r with | some d, some l => some (d :: l) | _, _ => none
def asD : PV → Option DV
  | .dat d => some d
  | .acc _ sz es => some (.lst sz es)
  | .mix cs => (allD1 cs).map .agg
  | _ => none
def oneD : DV → Bool
  | .agg _ | .tup _ => false
  | .raw v => v.oneCell'
  | _ => true
def oneP : PV → Bool
  | .dat d => oneD d
  | .mix _ | .tup _ => false
  | _ => true
def norm1 : DV → DV
  | .nil sz => .lst sz []
  | d => d
def normD : DV → DV
  | .nil sz => .lst sz []
  | .agg cs => .agg (cs.map norm1)
  | d => d
def allD : List PV → Option (List DV)
  | [] => some []
  | v :: r => match asD v, allD r with | some d, some l => some (d :: l) | _, _ => none
def collect (m : Bool) (cs : List PV) : PV := if m then .mix cs else match allD cs with | some ds => .dat (.agg ds) | none => .mix cs
def cellsT (i : TyI) (v : PV) : Option (List PV) :=
  if i.isAgg then
    match v with
    | .dat (.agg cs) => if cs.length = i.size then some (cs.map .dat) else none
    | .mix cs => if cs.length = i.size then some cs else none
    | _ => none
  else if oneP v then (if i.size = 1 then some [v] else none) else none
def setR (cs : List PV) (off : Nat) (new : List PV) : List PV := cs.take off ++ new ++ cs.drop (off + new.length)
def constD : Value → Option DV
  | .int k n => some (.int k n)
  | .bool b => some (.bool b)
  | .string s => if s.data.toList.length ≤ maxLen then some (.str s.data.toList) else none
  | .nilIface => some .nilI
  | .slice none 0 0 => some (.nil 0)
  | .pointer none => some (.raw (.pointer none))
  | .nilFunc => some (.raw .nilFunc)
  | .map none => some (.raw (.map none))
  | _ => none
def evalO (σ : St) : Operand → Option PV
  | .tmp t => σ.env t
  | .const v => (constD v).map .dat
  | .func f => some (.clo f [] [])
  | .global _ => none
def evalD (σ : St) (x : Operand) : Option DV := (evalO σ x).bind asD
def strLt (a b : List UInt8) : Bool := Op.bytesLess a b
def eqCells : List EqK → List DV → List DV → Option Bool
  | [], [], [] => some true
  | .int q :: l, .int k a :: r, .int k' b :: s => if k = q ∧ k' = q then (match eqCells l r s with | some e => some (decide (a = b) && e) | none => none) else none
  | .bool :: l, .bool a :: r, .bool b :: s => (match eqCells l r s with | some e => some (decide (a = b) && e) | none => none)
  | .str :: l, .str a :: r, .str b :: s => (match eqCells l r s with | some e => some (decide (a = b) && e) | none => none)
  | _, _, _ => none
def intBin (op : BinOp) (k : IntKind) (a b : Int) : Option DV :=
  match op with
  | .add => some (.int k (k.wrap (a + b)))
  | .sub => some (.int k (k.wrap (a - b)))
  | .mul => some (.int k (k.wrap (a * b)))
  | .quo => if b = 0 then none else some (.int k (k.wrap (a.tdiv b)))
  | .rem => if b = 0 then none else some (.int k (a.tmod b))
  | .eql => some (.bool (decide (a = b)))
  | .neq => some (.bool (!decide (a = b)))
  | .lss => some (.bool (decide (a < b)))
  | .leq => some (.bool (decide (a ≤ b)))
  | .gtr => some (.bool (decide (b < a)))
  | .geq => some (.bool (decide (b ≤ a)))
  | _ => none
def strBin (op : BinOp) (a b : List UInt8) : Option DV :=
  match op with
  | .eql => some (.bool (decide (a = b)))
  | .neq => some (.bool (!decide (a = b)))
  | .lss => some (.bool (strLt a b))
  | .leq => some (.bool (strLt a b || decide (a = b)))
  | .gtr => some (.bool (!(strLt a b || decide (a = b))))
  | .geq => some (.bool (!strLt a b))
  | _ => none
def binD (T : Tab) (op : BinOp) (t : TypeId) (y : Operand) : DV → DV → Option DV
  | .int k a, .int k' b => if k = k' then intBin op k a b else none
  | .str a, .str b => strBin op a b
  | .bool a, .bool b =>
    match tyOf T t, op with
    | .bool, .eql => some (.bool (decide (a = b)))
    | .bool, .neq => some (.bool (!decide (a = b)))
    | _, _ => none
  | .agg xs, .agg ys =>
    match T t with
    | some i =>
      if i.eqf.isEmpty then none else
        match op with
        | .eql => (eqCells i.eqf xs ys).map .bool
        | .neq => (eqCells i.eqf xs ys).map fun b => .bool (!b)
        | _ => none
    | none => none
  | .raw u, .raw v =>
    match u, v, op with
    | .pointer none, .pointer none, .eql => match tyOf T t with | .ptr => some (.bool true) | _ => none
    | .pointer none, .pointer none, .neq => match tyOf T t with | .ptr => some (.bool false) | _ => none
    | .nilFunc, .nilFunc, .eql => match tyOf T t with | .fn => some (.bool true) | _ => none
    | .nilFunc, .nilFunc, .neq => match tyOf T t with | .fn => some (.bool false) | _ => none
    | _, _, _ => none
  | .ip _ _, .raw v =>
    match v, op with
    | .pointer none, .eql => match tyOf T t with | .ptr => some (.bool false) | _ => none
    | .pointer none, .neq => match tyOf T t with | .ptr => some (.bool true) | _ => none
    | _, _ => none
  | .nilI, .nilI =>
    match tyOf T t, y, op with
    | .iface, .const _, .eql => some (.bool true)
    | .iface, .const _, .neq => some (.bool false)
    | _, _, _ => none
  | .ifc _ _, .nilI =>
    match tyOf T t, op with
    | .iface, .eql => some (.bool false)
    | .iface, .neq => some (.bool true)
    | _, _ => none
  | _, _ => none
def nilP (T : Tab) (op : BinOp) (t : TypeId) : PV → DV → Option DV
  | .ptr _ _, .raw v =>
    match v, op with
    | .pointer none, .eql => match tyOf T t with | .ptr => some (.bool false) | _ => none
    | .pointer none, .neq => match tyOf T t with | .ptr => some (.bool true) | _ => none
    | _, _ => none
  | .clo _ _ _, .raw v =>
    match v, op with
    | .nilFunc, .eql => match tyOf T t with | .fn => some (.bool false) | _ => none
    | .nilFunc, .neq => match tyOf T t with | .fn => some (.bool true) | _ => none
    | _, _ => none
  | .ifp _ _, .nilI =>
    match op with
    | .eql => match tyOf T t with | .iface => some (.bool false) | _ => none
    | .neq => match tyOf T t with | .iface => some (.bool true) | _ => none
    | _ => none
  | _, _ => none
def rowD : DV → Option (Nat × List (List DV))
  | .lst sz es => some (sz, es)
  | .nil sz => some (sz, [])
  | _ => none
def wordO (σ : St) : Option Operand → Int → Option Int
  | none, d => some d
  | some x, _ => match evalD σ x with | some (.int _ n) => some n | _ => none
def layP (fs : List (Nat × Nat × Bool)) (σ : St) : List (Nat × Operand) → List PV → Option (List PV)
  | [], cs => some cs
  | (k, x) :: r, cs =>
    match fs[k]?, evalO σ x with
    | some (off, sz, ag), some v =>
      match cellsT { ty := if ag then .struct [] else .other, size := sz, zero := [] } v with
      | some new => if off + new.length ≤ cs.length then layP fs σ r (setR cs off new) else none
      | none => none
    | _, _ => none
def rowsP (i : TyI) (σ : St) : List (Nat × Operand) → Nat → Option (List (List DV))
  | [], _ => some []
  | (k, x) :: r, n =>
    if k = n then
      match (evalO σ x).bind (cellsT i) with
      | some cs => match allD cs, rowsP i σ r (n + 1) with
        | some ds, some l => some (ds.map norm1 :: l)
        | _, _ => none
      | none => none
    else none
def rowsQ (i : TyI) (σ : St) : List (Nat × Operand) → Nat → Option (List PV)
  | [], _ => some []
  | (k, x) :: r, n =>
    if k = n then
      match (evalO σ x).bind (cellsT i), rowsQ i σ r (n + 1) with
      | some cs, some l => some (cs ++ l)
      | _, _ => none
    else none
def flatP (es : List (List DV)) : List PV := (es.map fun r => r.map .dat).flatten
def argsP (σ : St) : List Operand → Option (List PV)
  | [] => some []
  | x :: r => match evalO σ x, argsP σ r with | some v, some l => some (v :: l) | _, _ => none
/-! ### What holds of the heap -/
def CellsR (c : Cfg) (cs : List PV) (arr : Nat → Option Value) : Prop := ∀ (j : Nat) (v : PV), cs[j]? = some v → ∃ x, arr j = some x ∧ x.oneCell' = true ∧ RepP c v x
def BoxAt (w : World) (c : Cfg) (k : Key) (cs : List PV) : Prop :=
  (c.O k = none ∧ ∃ b ty arr, c.M k = some b ∧ w.heap[b]? = some (.cells arr ty (0, 0)) ∧ cs.length ≤ arr.size ∧ CellsR c cs fun j => arr[j]?) ∨
  (∃ x e sz n xs, c.O k = some (x, e, sz) ∧ w.ownsRow 0 e sz x n xs ∧ c.M k = x.ownBlock ∧ cs.length = n * sz ∧ CellsR c cs fun j => xs[j]?)
structure HS (σ : St) (w : World) (c : Cfg) : Prop where
  kin : ∀ b o v, c.K b o = some v → w.cell? ⟨b, o, none⟩ = some v
  box : ∀ k cs, σ.mem k = some cs → BoxAt w c k cs
  mlt : ∀ k b, c.M k = some b → b < w.heap.size
  mblk : ∀ k cs b, σ.mem k = some cs → c.M k = some b → ∀ o, c.K b o = none
  minj : ∀ k k' cs cs' b, σ.mem k = some cs → σ.mem k' = some cs' → c.M k = some b → c.M k' = some b → k = k'
  own : ∀ τ, σ.live τ = true → ∃ x e sz n xs, c.O τ = some (x, e, sz) ∧ w.ownsRow 0 e sz x n xs ∧
    ∀ g, x.ownBlock = some g → (∀ o v, c.K g o = some v → o < n * sz) ∧ ∀ k cs, σ.mem k = some cs → c.M k ≠ some g
  odis : ∀ τ τ' x x' g, σ.live τ = true → σ.live τ' = true → c.O τ = some x → c.O τ' = some x' → x.1.ownBlock = some g → x'.1.ownBlock = some g → τ = τ'
  gk : GK c.K
def touched (e : Eff) (c : Cfg) (b : Nat) : Prop := (∃ p ∈ e.wr, c.M p.1 = some b) ∨ (∃ τ ∈ e.use, ∃ x, c.O τ = some x ∧ x.1.ownBlock = some b) ∨ ∃ k ∈ e.rm, c.M k = some b
structure StepF (σ : St) (dst : Option Nat) (e : Eff) (w w' : World) (c c' : Cfg) : Prop where
  le : c.le c'
  os : w'.os = w.os
  tape : w'.tape = w.tape
  output : w'.output = w.output
  size : w.heap.size ≤ w'.heap.size
  blk : ∀ b, b < w.heap.size → ¬ touched e c b → w'.heap[b]? = w.heap[b]?
  kn : ∀ b o, b < w.heap.size → ¬ touched e c b → c'.K b o = c.K b o
  mn : ∀ k b, c'.M k = some b → c.M k = some b ∨ (((∃ i ∈ e.nw, k = (dst.getD 0, i, σ.ep)) ∨ ∃ i cs, (i, cs) ∈ e.al ∧ k = (dst.getD 0, i, σ.ep)) ∧ (w.heap.size ≤ b ∨ touched e c b))
  on : ∀ τ x, c'.O τ = some x → c.O τ = some x ∨ (((∃ i ∈ e.nw, τ = (dst.getD 0, i, σ.ep)) ∨ ∃ i cs, (i, cs) ∈ e.al ∧ τ = (dst.getD 0, i, σ.ep)) ∧ ∀ g, x.1.ownBlock = some g → w.heap.size ≤ g ∨ touched e c g)
  hs : HS (e.app dst σ) w' c'
def RepPs (c : Cfg) (vs : List PV) (xs : Array Value) : Prop := xs.size = vs.length ∧ ∀ (j : Nat) (v : PV), vs[j]? = some v → RepP c v (xs.getD j undef)
def RepDs (K : Known) (vs : List DV) (xs : Array Value) : Prop := xs.size = vs.length ∧ ∀ (j : Nat) (v : DV), vs[j]? = some v → RepD K v (xs.getD j undef)
def EnterOk (P : Program) (g : FuncId) : Prop := ∀ (args : Array Value) (w : World), (callFunc g args).run P w = .ok (.enter g args) w
def FreshAt (c : Cfg) (d ep : Nat) : Prop := (∀ i, c.M (d, i, ep) = none ∧ c.O (d, i, ep) = none) ∧ ∀ k : Key, ep < k.2.2 → c.M k = none ∧ c.O k = none
def CallE (P : Program) (g : FuncId) (args : List PV) (rdm : List (Key × List PV)) (d ep : Nat) (e : Eff) : Prop :=
  EnterOk P g ∧ e.rd = rdm.map (·.1) ∧
  ∀ (σ : St) (w : World) (c : Cfg) (xs : Array Value), σ.ep = ep → (∀ p ∈ rdm, σ.mem p.1 = some p.2) → (∀ τ ∈ e.use, σ.live τ = true) → HS σ w c →
    FreshAt c d ep → RepPs c args xs →
    Calls P g xs w fun en w' => ∃ v c', en = .returned v ∧ RepP c' e.val v ∧ StepF σ (some d) e w w' c c'
def CallK (P : Program) (g : FuncId) (args : List PV) (σ : St) (dst : Option Nat) (K : Eff → Prop) : Prop :=
  ∃ d rdm e, dst = some d ∧ (∀ p ∈ rdm, σ.mem p.1 = some p.2) ∧ (∀ τ ∈ e.use, σ.live τ = true) ∧ CallE P g args rdm d σ.ep e ∧ K e
def CallsD (P : Program) (g : FuncId) (args : List DV) (r : DV) : Prop :=
  EnterOk P g ∧ ∀ (K : Known) (w : World) (xs : Array Value), GK K → (∀ b o v, K b o = some v → w.cell? ⟨b, o, none⟩ = some v) → RepDs K args xs →
    Calls P g xs w fun en w' => ∃ v K', en = .returned v ∧ RepD K' r v ∧ (∀ b o v, K b o = some v → K' b o = some v) ∧
      (∀ b o, b < w.heap.size → K' b o = K b o) ∧ (∀ b o v, K' b o = some v → w'.cell? ⟨b, o, none⟩ = some v) ∧ Below w.heap.size w w'
/-! ### Operations -/
def unitP : PV := .dat (.tup [])
def isNilRow : Operand → Bool
  | .const (.slice none 0 0) => true
  | _ => false
def gate (b : Bool) (p q : Prop) : Prop := match b with | true => p → q | false => p ∧ q
inductive Out where
  | no
  | eff (e : Eff)
  | gated (p : Prop) (e : Eff)
  | need (p : Prop) (e : Eff)
  | two (t : Bool) (x y : Option PV)
  | row (p : List DV → Prop) (e : List DV → Eff)
  | byte (p : UInt8 → Prop) (e : UInt8 → Eff)
  | box (k : Key) (f : List PV → Option Eff)
  | boxn (k : Key) (p : List PV → Prop) (f : List PV → Option Eff)
  | box2 (k k' : Key) (p : List PV → List PV → Prop) (f : List PV → List PV → Option Eff)
  | own (τ : Key) (p : Prop) (e : Eff)
  | call (f : FuncId) (args : List PV)
def optK (x : Option PV) (K : Eff → Prop) : Prop := match x with | some v => K { val := v } | none => False
def Out.holds (P : Program) (g : Bool) (σ : St) (dst : Option Nat) (K : Eff → Prop) : Out → Prop
  | .no => False
  | .eff e => K e
  | .gated p e => gate g p (K e)
  | .need p e => p ∧ K e
  | .two t x y => (t = true → optK x K) ∧ (t = false → optK y K)
  | .row p e => ∃ cs, p cs ∧ K (e cs)
  | .byte p e => ∃ b, p b ∧ K (e b)
  | .box k f => match σ.mem k with | some cs => (match f cs with | some e => K { e with rd := [k] } | none => False) | none => False
  | .boxn k p f => match σ.mem k with | some cs => p cs ∧ (match f cs with | some e => K { e with rd := [k] } | none => False) | none => False
  | .box2 k k' p f => match σ.mem k, σ.mem k' with | some cs, some cs' => p cs cs' ∧ (match f cs cs' with | some e => K { e with rd := [k, k'] } | none => False) | _, _ => False
  | .own τ p e => σ.live τ = true ∧ p ∧ K { e with use := [τ] }
  | .call f args => CallK P f args σ dst K
def loadOut (m : Bool) (i : TyI) (off : Nat) (cs : List PV) : Option Eff :=
  if i.isAgg then (if off + i.size ≤ cs.length then some { val := collect m ((cs.drop off).take i.size) } else none)
  else match cs[off]? with | some v => some { val := v } | none => none
def storeOut (k : Key) (off : Nat) (new : List PV) (cs : List PV) : Option Eff :=
  if off + new.length ≤ cs.length then some { val := unitP, wr := [(k, setR cs off new)] } else none
def appOut (T : Tab) (d ep : Nat) (sz bytes : Nat) (x y : PV) : Out :=
  match x, y with
  | .row τ sx, .row τ' sy =>
    if sx = sz ∧ sy = sz then .box2 τ τ' (fun cs cs' => (cs.length + cs'.length) / sz * bytes ≤ 140737488355328 ∧ (cs.length + cs'.length) / sz ≤ maxLen)
      (fun cs cs' => some { val := .row (d, 0, ep) sz, al := [(0, cs ++ cs')], rm := [τ] }) else .no
  | .row τ sx, y =>
    match (asD y).bind rowD with
    | some (sy, ys) =>
      if sx = sz ∧ (sy = sz ∨ ys = []) then .boxn τ (fun cs => (cs.length / sz + ys.length) * bytes ≤ 140737488355328 ∧ cs.length / sz + ys.length ≤ maxLen)
        (fun cs => some { val := .row (d, 0, ep) sz, al := [(0, cs ++ flatP ys)], rm := [τ] }) else .no
    | none => .no
  | .dat (.nil _), .row τ sy =>
    if sy = sz then .boxn τ (fun cs => cs.length / sz * bytes ≤ 140737488355328 ∧ cs.length / sz ≤ maxLen) (fun cs => some { val := .row (d, 0, ep) sz, al := [(0, cs)] }) else .no
  | .dat (.nil _), y =>
    match (asD y).bind rowD with
    | some (sy, ys) =>
      if sy = sz ∨ ys = [] then
        if T.m d then .need (ys.length * bytes ≤ 140737488355328 ∧ ys.length ≤ maxLen) { val := .row (d, 0, ep) sz, al := [(0, flatP ys)] }
        else .need (ys.length * bytes ≤ 140737488355328 ∧ ys.length ≤ maxLen) { val := .acc (d, 0, ep) sz ys, nw := [0] }
      else .no
    | none => .no
  | .acc τ sx xs, y =>
    match (asD y).bind rowD with
    | some (sy, ys) =>
      if sx = sz ∧ (sy = sz ∨ ys = []) then .own τ ((xs.length + ys.length) * bytes ≤ 140737488355328 ∧ xs.length + ys.length ≤ maxLen) { val := .acc (d, 0, ep) sz (xs ++ ys), nw := [0] } else .no
    | none => .no
  | _, _ => .no
def builtinOut (T : Tab) (dst : Option Nat) (ep : Nat) (types : Array TypeId) (b : Builtin) (args : List PV) : Out :=
  match b, args with
  | .len, [.row τ sz] =>
    match (types[0]?).map (tyOf T) with
    | some (.slice _ sz' _) => if sz' = sz then .box τ (fun cs => some { val := .dat (.int .i64 (cs.length / sz : Nat)) }) else .no
    | _ => .no
  | .len, [v] =>
    match asD v, (types[0]?).map (tyOf T) with
    | some (.str s), some .str => .gated (s.length ≤ maxLen) { val := .dat (.int .i64 s.length) }
    | some d, some (.slice _ _ _) => match rowD d with | some (_, es) => .gated (es.length ≤ maxLen) { val := .dat (.int .i64 es.length) } | none => .no
    | _, _ => .no
  | .min, [x, y] =>
    match asD x, asD y with
    | some (.int k a), some (.int k' b) => if k = k' then .eff { val := .dat (.int k (if b < a then b else a)) } else .no
    | _, _ => .no
  | .max, [x, y] =>
    match asD x, asD y with
    | some (.int k a), some (.int k' b) => if k = k' then .eff { val := .dat (.int k (if a < b then b else a)) } else .no
    | _, _ => .no
  | .append, [x, y] =>
    match dst, types.toList with
    | some d, [t, t'] =>
      if t = t' then
        match tyOf T t with
        | .slice _ sz bytes => appOut T d ep sz bytes x y
        | _ => .no
      else .no
    | _, _ => .no
  | _, _ => .no
def opOut (T : Tab) (o : Oper) (σ : St) : Out :=
  match o.op with
  | .move x => match evalO σ x with | some v => .eff { val := v } | none => .no
  | .assign x =>
    if isNilRow x then
      match o.dst, tyOf T o.type with
      | some d, .slice _ sz _ => if T.m d then .eff { val := .row (d, 0, σ.ep) sz, al := [(0, [])] } else .eff { val := .acc (d, 0, σ.ep) sz [], nw := [0] }
      | _, _ => .no
    else match evalO σ x with | some v => .eff { val := v } | none => .no
  | .pick c a b =>
    match evalO σ c with
    | some (.dat (.bool t)) => .two t (evalO σ a) (evalO σ b)
    | _ => .no
  | .alloc t =>
    match o.dst, T t with
    | some d, some i => .eff { val := .ptr (d, 0, σ.ep) 0, al := [(0, i.zero.map .dat)] }
    | _, _ => .no
  | .box t x =>
    match o.dst, T t with
    | some d, some i =>
      match (evalO σ x).bind (cellsT i) with
      | some cs => .eff { val := .ptr (d, 0, σ.ep) 0, al := [(0, cs)] }
      | none => .no
    | _, _ => .no
  | .build t parts =>
    match T t with
    | some i =>
      match i.ty with
      | .struct fs =>
        match layP fs σ parts.toList (i.zero.map .dat) with
        | some cs => .eff { val := collect (T.md o.dst) cs }
        | none => .no
      | _ => .no
    | none => .no
  | .buildSlice t n parts =>
    match o.dst, tyOf T t with
    | some d, .slice e sz _ =>
      match T e with
      | some i =>
        if i.size = sz ∧ parts.size = n ∧ n * sz ≤ 2 ^ 24 then
          if T.m d then
            match rowsQ i σ parts.toList 0 with
            | some cs => .eff { val := .row (d, 0, σ.ep) sz, al := [(0, cs)] }
            | none => .no
          else
          match rowsP i σ parts.toList 0 with
          | some es => .eff { val := .acc (d, 0, σ.ep) sz es, nw := [0] }
          | none => .no
        else .no
      | none => .no
    | _, _ => .no
  | .load t a =>
    match T t, evalO σ a with
    | some i, some (.ptr k off) => .box k (loadOut (T.md o.dst) i off)
    | some i, some (.dat (.ip cs off)) =>
      if i.isAgg then (if off + i.size ≤ cs.length then .eff { val := .dat (.agg ((cs.drop off).take i.size)) } else .no)
      else match cs[off]? with | some v => .eff { val := .dat v } | none => .no
    | _, _ => .no
  | .store t a x =>
    match o.dst, T t, evalO σ a with
    | none, some i, some (.ptr k off) =>
      match (evalO σ x).bind (cellsT i) with
      | some new => .box k (storeOut k off new)
      | none => .no
    | _, _, _ => .no
  | .binOp op t x y _ =>
    match evalD σ x, evalD σ y with
    | some a, some b =>
      (match binD T op t y a b with
       | some d => .eff { val := .dat d }
       | none => (match op, a, b with
         | .add, .str u, .str v => .need (u.length + v.length ≤ maxLen) { val := .dat (.str (u ++ v)) }
         | _, _, _ => .no))
    | none, some b => match (evalO σ x).bind fun a => nilP T op t a b with | some d => .eff { val := .dat d } | none => .no
    | _, _ => .no
  | .convert s t x =>
    match tyOf T s, tyOf T t, evalD σ x with
    | .int _, .int k, some (.int _ n) => .eff { val := .dat (.int k (k.wrap n)) }
    | _, _, _ => .no
  | .nilCheck x => match evalO σ x with | some (.ptr k off) => .eff { val := .ptr k off } | _ => .no
  | .makeMap _ none => .eff { val := .any }
  | .makeSlice t x y =>
    match o.dst, tyOf T t, evalD σ x, evalD σ y with
    | some d, .slice e sz bytes, some (.int _ n), some (.int _ n') =>
      match T e with
      | some i => .need (n' = n ∧ 0 ≤ n ∧ bytes * n.toNat ≤ 281474976710656 ∧ n.toNat ≤ maxLen) { val := .row (d, 0, σ.ep) sz, al := [(0, (List.replicate n.toNat (i.zero.map .dat)).flatten)] }
      | none => .no
    | _, _, _, _ => .no
  | .unOp .not _ x => match evalD σ x with | some (.bool b) => .eff { val := .dat (.bool (!b)) } | _ => .no
  | .fieldAddr t x f =>
    match tyOf T t, evalO σ x with
    | .struct fs, some (.ptr k off) => match fs[f]? with | some p => .eff { val := .ptr k (off + p.1) } | none => .no
    | .struct fs, some (.dat (.ip cs off)) => match fs[f]? with | some p => .eff { val := .dat (.ip cs (off + p.1)) } | none => .no
    | _, _ => .no
  | .field t x f =>
    match tyOf T t, evalD σ x with
    | .struct fs, some (.agg cs) =>
      match fs[f]? with
      | some (off, sz, ag) =>
        if ag then (if off + sz ≤ cs.length then .eff { val := .dat (.agg ((cs.drop off).take sz)) } else .no)
        else match cs[off]? with | some d => .eff { val := .dat d } | none => .no
      | none => .no
    | .struct fs, none =>
      match evalO σ x with
      | some (.mix cs) =>
        match fs[f]? with
        | some (off, sz, ag) =>
          if ag then (if off + sz ≤ cs.length then .eff { val := collect (T.md o.dst) ((cs.drop off).take sz) } else .no)
          else match cs[off]? with | some d => .eff { val := d } | none => .no
        | none => .no
      | _ => .no
    | _, _ => .no
  | .indexAddr t x i =>
    match tyOf T t, evalD σ x, evalD σ i with
    | .slice _ sz _, none, some (.int _ n) =>
      match evalO σ x with
      | some (.row τ sz') => if sz' = sz then .boxn τ (fun cs => 0 ≤ n ∧ n.toNat * sz + sz ≤ cs.length) (fun _ => some { val := .ptr τ (n.toNat * sz) }) else .no
      | _ => .no
    | .slice _ sz _, some d, some (.int _ n) =>
      match d with
      | .lst sz' es => if sz' = sz then .row (fun cs => 0 ≤ n ∧ es[n.toNat]? = some cs) (fun cs => { val := .dat (.ip cs 0) }) else .no
      | _ => .no
    | _, _, _ => .no
  | .index t x i =>
    match tyOf T t, evalD σ x, evalD σ i with
    | .str, some (.str s), some (.int _ n) => .byte (fun b => 0 ≤ n ∧ s[n.toNat]? = some b) (fun b => { val := .dat (.int .u8 b.toNat) })
    | _, _, _ => .no
  | .extract x i => match evalO σ x with
    | some (.dat (.tup vs)) => (match vs[i]? with | some d => .eff { val := .dat d } | none => .no)
    | some (.tup vs) => (match vs[i]? with | some d => .eff { val := d } | none => .no)
    | _ => .no
  | .slice t x lo hi none =>
    match tyOf T t, evalD σ x with
    | .str, some (.str s) =>
      match wordO σ lo 0, wordO σ hi s.length with
      | some l, some h => .need (0 ≤ l ∧ l ≤ h ∧ h ≤ s.length) { val := .dat (.str ((s.take h.toNat).drop l.toNat)) }
      | _, _ => .no
    | .slice _ sz _, none =>
      match o.dst, evalO σ x, lo, hi.map fun y => evalD σ y with
      | some d, some (.row τ sz'), none, some (some (.int _ h)) =>
        if sz' = sz then .boxn τ (fun cs => 0 ≤ h ∧ h.toNat * sz ≤ cs.length) (fun cs => some { val := .row (d, 0, σ.ep) sz, al := [(0, cs.take (h.toNat * sz))], rm := [τ] }) else .no
      | _, _, _, _ => .no
    | .slice _ sz _, some d =>
      match d with
      | .lst sz' es =>
        if sz' = sz then
          match wordO σ lo 0, wordO σ hi es.length with
          | some l, some h => .need (0 ≤ l ∧ l ≤ h ∧ h ≤ es.length) { val := .dat (.lst sz ((es.take h.toNat).drop l.toNat)) }
          | _, _ => .no
        else .no
      | _ => .no
    | _, _ => .no
  | .makeInterface t x =>
    match T t, evalO σ x with
    | some i, some (.dat d) => match i.ty with | .int _ | .str | .bool | .ptr => .eff { val := .dat (.ifc t d) } | _ => .no
    | some i, some (.ptr k 0) => match i.ty with | .ptr => .boxn k (fun _ => True) (fun cs => match allD1 cs with | some ds => some { val := .dat (.ifc t (.ip ds 0)), rm := [k] } | none => none) | _ => .no
    | _, _ => .no
  | .makeFunc (.func f) first cap => match argsP σ first.toList, argsP σ cap.toList with | some m, some l => .eff { val := .clo f m l } | _, _ => .no
  | .call c =>
    match c.callee with
    | .value f => match argsP σ c.args.toList, evalO σ f with | some args, some (.clo f' fst caps) => .call f' (fst ++ args ++ caps) | _, _ => .no
    | .builtin b => match argsP σ c.args.toList with | some args => builtinOut T o.dst σ.ep c.argTypes b args | none => .no
    | .invoke _ _ => .no
  | _ => .no
def OpK (P : Program) (T : Tab) (g : Bool) (o : Oper) (σ : St) (K : Eff → Prop) : Prop := (opOut T o σ).holds P g σ o.dst K
end Go.Proofs.YtbeafnkcimfeeaaGreatDoor.AM
/- The abstract machine (3): steps of the world: nothing, a box, a store, rows. -/
namespace Go.Proofs.YtbeafnkcimfeeaaGreatDoor.AM
set_option linter.unusedVariables false
set_option linter.unusedSimpArgs false
open Go.RowKit
set_option linter.unusedVariables false
set_option linter.unusedSimpArgs false
theorem rmMem_eq : ∀ (ks : List Key) (m : Key → Option (List PV)) (k : Key), rmMem ks m k = if k ∈ ks then none else m k
  | [], _, _ => by simp [rmMem]
  | a :: r, m, k => by
    rw [rmMem, rmMem_eq r]
    by_cases h : k ∈ r
    · simp [h]
    · by_cases q : k = a
      · subst q; simp [h]
      · rw [upd_ne _ _ q]; simp [h, q]
theorem CellsR.mono {c c' : Cfg} (h : c.le c') {cs : List PV} {f : Nat → Option Value} (r : CellsR c cs f) : CellsR c' cs f :=
  fun j v hj => let ⟨x, a, b, d⟩ := r j v hj; ⟨x, a, b, d.mono h⟩
theorem CellsR.congr {c : Cfg} {cs : List PV} {f g : Nat → Option Value} (r : CellsR c cs f) (h : ∀ j, j < cs.length → g j = f j) : CellsR c cs g :=
  fun j v hj => by
    obtain ⟨x, a, b, d⟩ := r j v hj
    exact ⟨x, by rw [h j (List.getElem?_eq_some_iff.1 hj).1]; exact a, b, d⟩
theorem HS.congr {σ σ' : St} {w : World} {c : Cfg} (h : HS σ w c) (hm : σ'.mem = σ.mem) (hl : σ'.live = σ.live) : HS σ' w c :=
  ⟨h.kin, fun k cs hk => h.box k cs (by rw [← hm]; exact hk), h.mlt, fun k cs b hk => h.mblk k cs b (by rw [← hm]; exact hk),
   fun k k' cs cs' b hk hk' => h.minj k k' cs cs' b (by rw [← hm]; exact hk) (by rw [← hm]; exact hk'),
   fun τ ht => let ⟨x, e, sz, n, xs, a, b, d⟩ := h.own τ (by rw [← hl]; exact ht); ⟨x, e, sz, n, xs, a, b, fun g hg => ⟨(d g hg).1, fun k cs hk => (d g hg).2 k cs (by rw [← hm]; exact hk)⟩⟩,
   fun τ τ' x x' g a b => h.odis τ τ' x x' g (by rw [← hl]; exact a) (by rw [← hl]; exact b), h.gk⟩
theorem HS.klt {σ : St} {w : World} {c : Cfg} (h : HS σ w c) {b o : Nat} {v : Value} (hk : c.K b o = some v) : b < w.heap.size :=
  World.block_lt_of_cell? w _ (h.kin b o v hk)
theorem ownsRow_block {w : World} {e : TypeId} {sz n : Nat} {x : Value} {xs : List Value} {g : Nat} (h : w.ownsRow 0 e sz x n xs) (hg : x.ownBlock = some g) :
    ∃ cap cur, x = .slice (some ⟨g, 0, none⟩) n cap ∧ w.heap[g]? = some (.cells cur e (0, 0)) ∧ n ≤ cap ∧ cap ≤ maxLen ∧ cur.size = cap * sz ∧ cur.toList.take (n * sz) = xs := by
  rcases h.2 with ⟨rfl, _⟩ | ⟨g', cap, cur, rfl, _, hh, hn, hm, hs, ht⟩
  · simp [Value.ownBlock] at hg
  · simp [Value.ownBlock] at hg
    subst hg
    exact ⟨cap, cur, rfl, hh, hn, hm, hs, ht⟩
theorem ownsRow_keptB {w w' : World} {base : Nat} {e : TypeId} {size : Nat} {v : Value} {n : Nat} {xs : List Value} (h : w.ownsRow base e size v n xs) (hg : ∀ g, v.ownBlock = some g → w'.heap[g]? = w.heap[g]?) : w'.ownsRow base e size v n xs := by
  refine ⟨h.1, ?_⟩
  rcases h.2 with hn | ⟨g, cap, cur, rfl, hb, hgg, rest⟩
  · exact .inl hn
  · exact .inr ⟨g, cap, cur, rfl, hb, (hg g rfl).trans hgg, rest⟩
theorem BoxAt.block {w : World} {c : Cfg} {k : Key} {cs : List PV} {b : Nat} (h : BoxAt w c k cs) (hb : c.M k = some b) :
    ∃ ty arr, w.heap[b]? = some (.cells arr ty (0, 0)) ∧ cs.length ≤ arr.size ∧ CellsR c cs fun j => arr[j]? := by
  rcases h with ⟨_, b', ty, arr, h1, h2, h3, h4⟩ | ⟨x, e, sz, n, xs, h1, h2, h3, h4, h5⟩
  · rw [hb] at h1
    obtain rfl := Option.some.inj h1
    exact ⟨ty, arr, h2, h3, h4⟩
  · rw [hb] at h3
    obtain ⟨cap, cur, rfl, g1, g2, g3, g4, g5⟩ := ownsRow_block h2 h3.symm
    have hle : n * sz ≤ cur.size := by rw [g4]; exact Nat.mul_le_mul_right _ g2
    refine ⟨e, cur, g1, by rw [h4]; exact hle, h5.congr (fun j hj => ?_)⟩
    rw [← g5, List.getElem?_take, if_pos (by omega)]
    simp
theorem BoxAt.kept {w w' : World} {c c' : Cfg} {k : Key} {cs : List PV} (h : BoxAt w c k cs) (hle : c.le c') (hM : c'.M k = c.M k) (hO : c'.O k = c.O k) (hb : ∀ b, c.M k = some b → w'.heap[b]? = w.heap[b]?) : BoxAt w' c' k cs := by
  rcases h with ⟨h0, b, ty, arr, h1, h2, h3, h4⟩ | ⟨x, e, sz, n, xs, h1, h2, h3, h4, h5⟩
  · exact .inl ⟨hO.trans h0, b, ty, arr, hM.trans h1, (hb b h1).trans h2, h3, h4.mono hle⟩
  · exact .inr ⟨x, e, sz, n, xs, hO.trans h1, ownsRow_keptB h2 (fun g hg => hb g (h3.trans hg)), hM.trans h3, h4, h5.mono hle⟩
theorem HS.fresh {σ : St} {w : World} {c : Cfg} (h : HS σ w c) {k : Key} (hM : c.M k = none) (hO : c.O k = none) : σ.mem k = none := by
  cases hk : σ.mem k with
  | none => rfl
  | some cs =>
    rcases h.box k cs hk with ⟨_, b, _, _, h1, _⟩ | ⟨x, e, sz, n, xs, h1, _⟩
    · rw [hM] at h1; cases h1
    · rw [hO] at h1; cases h1
theorem stepF_same {σ : St} {w : World} {c : Cfg} (h : HS σ w c) (dst : Option Nat) (v : PV) (rd : List Key) :
    StepF σ dst { val := v, rd := rd } w w c c :=
  ⟨.refl c, rfl, rfl, rfl, Nat.le_refl _, fun _ _ _ => rfl, fun _ _ _ _ => rfl, fun _ _ hk => .inl hk, fun _ _ hk => .inl hk,
   h.congr (by simp [Eff.app, wrMem, rmMem, Eff.alKeys]) (by simp [Eff.app, setLive, Eff.nwKeys])⟩
theorem stepF_grown {σ : St} {w w' : World} {c : Cfg} (h : HS σ w c) (dst : Option Nat) (v : PV) (rd : List Key) (hg : w.grownBy w' none) :
    StepF σ dst { val := v, rd := rd } w w' c c := by
  have hb : ∀ b, b < w.heap.size → w'.heap[b]? = w.heap[b]? := fun b hb => hg.block b hb (by simp)
  refine ⟨.refl c, hg.os, hg.tape, hg.output, hg.size, fun b h1 _ => hb b h1, fun _ _ _ _ => rfl, fun _ _ hk => .inl hk, fun _ _ hk => .inl hk, ?_⟩
  have hm : (Eff.app dst { val := v, rd := rd } σ).mem = σ.mem := by simp [Eff.app, wrMem, rmMem, Eff.alKeys]
  have hl : (Eff.app dst { val := v, rd := rd } σ).live = σ.live := by simp [Eff.app, setLive, Eff.nwKeys]
  refine HS.congr (σ := σ) ⟨fun b o v hk => ?_, fun k cs hk => (h.box k cs hk).kept (.refl c) rfl rfl (fun b hb' => hb b (h.mlt k b hb')), fun k b hk => Nat.lt_of_lt_of_le (h.mlt k b hk) hg.size, h.mblk, h.minj, fun τ ht => ?_, h.odis, h.gk⟩ hm hl
  · rw [World.cell?_of_block (hb b (h.klt hk))]; exact h.kin b o v hk
  · obtain ⟨x, e, sz, n, xs, h1, h2, h3⟩ := h.own τ ht
    exact ⟨x, e, sz, n, xs, h1, ownsRow_keptB h2 (fun g hg' => hb g (h2.lt g hg').2), h3⟩
theorem stepF_box {σ : St} {w : World} {c : Cfg} (h : HS σ w c) (d : Nat) (v : PV) (cs : List PV) (arr : Array Value) (ty : TypeId)
    (hf : c.M (d, 0, σ.ep) = none) (hfO : c.O (d, 0, σ.ep) = none) (hs : arr.size = cs.length) (hr : CellsR c cs fun j => arr[j]?) :
    StepF σ (some d) { val := v, al := [(0, cs)] } w (w.alloc (.cells arr ty)) c { c with M := upd c.M (d, 0, σ.ep) (some w.heap.size) } := by
  have hle : c.le { c with M := upd c.M (d, 0, σ.ep) (some w.heap.size) } := by
    refine ⟨fun _ _ _ x => x, fun k b hk => ?_, fun _ _ x => x⟩
    show upd c.M _ _ k = some b
    rw [upd_ne _ _ (fun e => by rw [e, hf] at hk; cases hk)]
    exact hk
  have hM : ∀ k b, upd c.M (d, 0, σ.ep) (some w.heap.size) k = some b → c.M k = some b ∨ (k = (d, 0, σ.ep) ∧ b = w.heap.size) := by
    intro k b hk
    by_cases e : k = (d, 0, σ.ep)
    · subst e; rw [upd_same] at hk; exact .inr ⟨rfl, (Option.some.inj hk).symm⟩
    · rw [upd_ne _ _ e] at hk; exact .inl hk
  have hmem : ∀ k cs', (Eff.app (some d) { val := v, al := [(0, cs)] } σ).mem k = some cs' → (k = (d, 0, σ.ep) ∧ cs' = cs) ∨ (k ≠ (d, 0, σ.ep) ∧ σ.mem k = some cs') := by
    intro k cs' hk
    simp only [Eff.app, wrMem, rmMem, Eff.alKeys, List.map_cons, List.map_nil, Option.getD_some] at hk
    by_cases e : k = (d, 0, σ.ep)
    · subst e; rw [upd_same] at hk; exact .inl ⟨rfl, (Option.some.inj hk).symm⟩
    · rw [upd_ne _ _ e] at hk; exact .inr ⟨e, hk⟩
  have hMo : ∀ k, k ≠ (d, 0, σ.ep) → upd c.M (d, 0, σ.ep) (some w.heap.size) k = c.M k := fun k e => upd_ne _ _ e
  refine ⟨hle, rfl, rfl, rfl, by simp, fun b hb _ => Below.heap_alloc _ _ _ hb, fun _ _ _ _ => rfl, ?_, fun _ _ x => .inl x, ?_⟩
  · intro k b hk
    rcases hM k b hk with hk | ⟨rfl, rfl⟩
    · exact .inl hk
    · exact .inr ⟨.inr ⟨0, cs, by simp, rfl⟩, .inl (Nat.le_refl _)⟩
  · refine ⟨?_, ?_, ?_, ?_, ?_, ?_, ?_, h.gk⟩
    · intro b o v hk
      exact (World.cell?_alloc_lt w _ _ (h.klt hk)).trans (h.kin b o v hk)
    · intro k cs' hk
      rcases hmem k cs' hk with ⟨rfl, rfl⟩ | ⟨e, hk⟩
      · exact .inl ⟨hfO, w.heap.size, ty, arr, upd_same _ _ _, heap_alloc_new w _, Nat.le_of_eq hs.symm, hr.mono hle⟩
      · exact (h.box k cs' hk).kept hle (hMo k e) rfl (fun b hb => Below.heap_alloc _ _ _ (h.mlt k b hb))
    · intro k b hk
      rcases hM k b hk with hk | ⟨rfl, rfl⟩
      · have := h.mlt k b hk; simp; omega
      · simp
    · intro k cs' b hk hb o
      rcases hmem k cs' hk with ⟨rfl, rfl⟩ | ⟨e, hk⟩
      · obtain rfl : b = w.heap.size := by
          have : upd c.M (d, 0, σ.ep) (some w.heap.size) (d, 0, σ.ep) = some b := hb
          rw [upd_same] at this; exact (Option.some.inj this).symm
        cases ho : c.K w.heap.size o with
        | none => rfl
        | some v => exact absurd (h.klt ho) (Nat.lt_irrefl _)
      · exact h.mblk k cs' b hk (by rw [← hMo k e]; exact hb) o
    · intro k k' c1 c2 b hk hk' hb hb'
      rcases hmem k c1 hk with ⟨rfl, rfl⟩ | ⟨e, hk⟩ <;> rcases hmem k' c2 hk' with ⟨rfl, rfl⟩ | ⟨e', hk'⟩
      · rfl
      · have : upd c.M (d, 0, σ.ep) (some w.heap.size) (d, 0, σ.ep) = some b := hb
        rw [upd_same] at this
        obtain rfl := Option.some.inj this
        exact absurd (h.mlt k' _ (by rw [← hMo k' e']; exact hb')) (Nat.lt_irrefl _)
      · have : upd c.M (d, 0, σ.ep) (some w.heap.size) (d, 0, σ.ep) = some b := hb'
        rw [upd_same] at this
        obtain rfl := Option.some.inj this
        exact absurd (h.mlt k _ (by rw [← hMo k e]; exact hb)) (Nat.lt_irrefl _)
      · exact h.minj k k' c1 c2 b hk hk' (by rw [← hMo k e]; exact hb) (by rw [← hMo k' e']; exact hb')
    · intro τ ht
      simp only [Eff.app, setLive, Eff.nwKeys, List.map_nil] at ht
      obtain ⟨x, e, sz, n, xs, h1, h2, h3⟩ := h.own τ ht
      refine ⟨x, e, sz, n, xs, h1, h2.alloc _, fun g hg => ⟨(h3 g hg).1, fun k cs' hk hb => ?_⟩⟩
      rcases hmem k cs' hk with ⟨rfl, rfl⟩ | ⟨e', hk⟩
      · have : upd c.M (d, 0, σ.ep) (some w.heap.size) (d, 0, σ.ep) = some g := hb
        rw [upd_same] at this
        obtain rfl := Option.some.inj this
        exact absurd (h2.lt _ hg).2 (Nat.lt_irrefl _)
      · exact (h3 g hg).2 k cs' hk (by rw [← hMo k e']; exact hb)
    · intro τ τ' x x' g a b
      simp only [Eff.app, setLive, Eff.nwKeys, List.map_nil] at a b
      exact h.odis τ τ' x x' g a b
theorem getElem?_setRow {α : Type} (cs new : List α) (off j : Nat) (h : off + new.length ≤ cs.length) :
    (cs.take off ++ new ++ cs.drop (off + new.length))[j]? = if off ≤ j ∧ j < off + new.length then new[j - off]? else cs[j]? := by
  rw [List.append_assoc]
  by_cases h1 : j < off
  · rw [List.getElem?_append_left (by simp; omega), List.getElem?_take, if_pos h1, if_neg (by omega)]
  · rw [List.getElem?_append_right (by simp; omega), List.length_take, show min off cs.length = off from by omega]
    by_cases h2 : j < off + new.length
    · rw [List.getElem?_append_left (by omega), if_pos (by omega)]
    · rw [List.getElem?_append_right (by omega), if_neg (by omega), List.getElem?_drop]
      congr 1
      omega
theorem getElem?_setR (cs new : List PV) (off j : Nat) (h : off + new.length ≤ cs.length) :
    (setR cs off new)[j]? = if off ≤ j ∧ j < off + new.length then new[j - off]? else cs[j]? := getElem?_setRow cs new off j h
theorem stepF_store {σ : St} {w : World} {c : Cfg} (h : HS σ w c) (dst : Option Nat) (v : PV) (k : Key) (b : Nat) (old new : List PV) (arr arr' : Array Value) (ty : TypeId) (rd : List Key)
    (hk : c.M k = some b) (hm : σ.mem k = some old) (hb : w.heap[b]? = some (.cells arr ty (0, 0))) (hsz : arr'.size = arr.size) (hln : new.length = old.length) (hr : CellsR c new fun j => arr'[j]?) :
    StepF σ dst { val := v, wr := [(k, new)], rd := rd } w (w.setRow b arr') c c := by
  have hmem : ∀ k' cs', (Eff.app dst { val := v, wr := [(k, new)], rd := rd } σ).mem k' = some cs' → (k' = k ∧ cs' = new) ∨ (k' ≠ k ∧ σ.mem k' = some cs') := by
    intro k' cs' hk'
    simp only [Eff.app, wrMem, rmMem, Eff.alKeys, List.map_nil] at hk'
    by_cases e : k' = k
    · subst e; rw [upd_same] at hk'; exact .inl ⟨rfl, (Option.some.inj hk').symm⟩
    · rw [upd_ne _ _ e] at hk'; exact .inr ⟨e, hk'⟩
  refine ⟨.refl c, rfl, rfl, rfl, by simp, ?_, fun _ _ _ _ => rfl, fun _ _ x => .inl x, fun _ _ x => .inl x, ?_⟩
  · intro b' _ hn
    refine setRow_other w b b' arr' (fun e => hn (.inl ⟨(k, new), by simp, by rw [e]; exact hk⟩))
  · refine ⟨?_, ?_, ?_, ?_, ?_, ?_, ?_, h.gk⟩
    · intro b' o v hK
      refine (cell_setRow_other w b arr' _ (fun e => ?_)).trans (h.kin b' o v hK)
      have := h.mblk k old b hm hk o
      rw [← e] at this
      exact absurd hK (by rw [this]; simp)
    · intro k' cs hk'
      rcases hmem k' cs hk' with ⟨rfl, rfl⟩ | ⟨e, hk'⟩
      · rcases h.box k' old hm with ⟨h0, b1, ty1, arr1, h1, h2, h3, h4⟩ | ⟨x, e, sz, n, xs, h1, h2, h3, h4, h5⟩
        · rw [hk] at h1
          obtain rfl := Option.some.inj h1
          rw [hb] at h2
          cases h2
          exact .inl ⟨h0, b, ty, arr', hk, setRow_heap w b arr arr' ty _ hb, by omega, hr⟩
        · obtain ⟨cap, cur, rfl, g1, g2, g3, g4, g5⟩ := ownsRow_block h2 (h3.symm.trans hk)
          rw [hb] at g1
          cases g1
          have hle : n * sz ≤ arr.size := by rw [g4]; exact Nat.mul_le_mul_right _ g2
          refine .inr ⟨_, ty, sz, n, arr'.toList.take (n * sz), h1, ⟨by simp; omega, .inr ⟨b, cap, arr', rfl, Nat.zero_le _, setRow_heap w b arr arr' ty _ hb, g2, g3, by omega, rfl⟩⟩, hk.trans rfl, by omega, hr.congr (fun j hj => ?_)⟩
          rw [List.getElem?_take, if_pos (by omega)]
          simp
      · exact (h.box k' cs hk').kept (.refl c) rfl rfl (fun b' hb' => setRow_other w b b' arr' (fun e' => e (h.minj k' k cs old b hk' hm (e' ▸ hb') hk)))
    · intro k' b' hk'
      have := h.mlt k' b' hk'; simpa using this
    · intro k' cs' b' hk' hb'
      rcases hmem k' cs' hk' with ⟨rfl, rfl⟩ | ⟨e, hk'⟩
      · exact h.mblk k' old b' hm hb'
      · exact h.mblk k' cs' b' hk' hb'
    · intro k1 k2 c1 c2 b' h1 h2 hb1 hb2
      have old' : ∀ k' cs', (Eff.app dst { val := v, wr := [(k, new)], rd := rd } σ).mem k' = some cs' → ∃ cs, σ.mem k' = some cs := by
        intro k' cs' hk'
        rcases hmem k' cs' hk' with ⟨rfl, rfl⟩ | ⟨e, hk'⟩
        · exact ⟨old, hm⟩
        · exact ⟨cs', hk'⟩
      obtain ⟨d1, h1⟩ := old' k1 c1 h1
      obtain ⟨d2, h2⟩ := old' k2 c2 h2
      exact h.minj k1 k2 d1 d2 b' h1 h2 hb1 hb2
    · intro τ ht
      simp only [Eff.app, setLive, Eff.nwKeys, List.map_nil] at ht
      obtain ⟨x, e, sz, n, xs, h1, h2, h3⟩ := h.own τ ht
      refine ⟨x, e, sz, n, xs, h1, ownsRow_keptB h2 (fun g hg => setRow_other w b g arr' (fun e => (h3 g hg).2 k old hm (e ▸ hk))), fun g hg => ⟨(h3 g hg).1, fun k' cs' hk' => ?_⟩⟩
      rcases hmem k' cs' hk' with ⟨rfl, rfl⟩ | ⟨e, hk'⟩
      · exact (h3 g hg).2 k' old hm
      · exact (h3 g hg).2 k' cs' hk'
    · intro τ τ' x x' g a b
      simp only [Eff.app, setLive, Eff.nwKeys, List.map_nil] at a b
      exact h.odis τ τ' x x' g a b
theorem stepF_nil {σ : St} {w : World} {c : Cfg} (h : HS σ w c) (d : Nat) (v : PV) (e : TypeId) (sz : Nat) (hf : c.O (d, 0, σ.ep) = none) (hfM : c.M (d, 0, σ.ep) = none) :
    StepF σ (some d) { val := v, nw := [0] } w w c { c with O := upd c.O (d, 0, σ.ep) (some (.slice none 0 0, e, sz)) } := by
  have hO : ∀ k x, upd c.O (d, 0, σ.ep) (some (.slice none 0 0, e, sz)) k = some x → (c.O k = some x ∧ k ≠ (d, 0, σ.ep)) ∨ (k = (d, 0, σ.ep) ∧ x = (.slice none 0 0, e, sz)) := by
    intro k x hk
    by_cases q : k = (d, 0, σ.ep)
    · subst q; rw [upd_same] at hk; exact .inr ⟨rfl, (Option.some.inj hk).symm⟩
    · rw [upd_ne _ _ q] at hk; exact .inl ⟨hk, q⟩
  have hle : c.le { c with O := upd c.O (d, 0, σ.ep) (some (.slice none 0 0, e, sz)) } := by
    refine ⟨fun _ _ _ x => x, fun _ _ x => x, fun k x hk => ?_⟩
    show upd c.O _ _ k = some x
    rw [upd_ne _ _ (fun q => by rw [q, hf] at hk; cases hk)]
    exact hk
  have hmn := h.fresh hfM hf
  have hm : (Eff.app (some d) { val := v, nw := [0] } σ).mem = σ.mem := by simp [Eff.app, wrMem, rmMem, Eff.alKeys]
  refine ⟨hle, rfl, rfl, rfl, Nat.le_refl _, fun _ _ _ => rfl, fun _ _ _ _ => rfl, fun _ _ x => .inl x, ?_, ?_⟩
  · intro τ x hx
    rcases hO τ x hx with ⟨hx, _⟩ | ⟨rfl, rfl⟩
    · exact .inl hx
    · exact .inr ⟨.inl ⟨0, by simp, rfl⟩, fun g hg => by simp [Value.ownBlock] at hg⟩
  · refine ⟨h.kin, ?_, h.mlt, by rw [hm]; exact h.mblk, by rw [hm]; exact h.minj, ?_, ?_, h.gk⟩
    · intro k cs hk
      rw [hm] at hk
      refine (h.box k cs hk).kept hle rfl (upd_ne _ _ (fun q => ?_)) (fun _ _ => rfl)
      rw [q, hmn] at hk; cases hk
    · intro τ ht
      rw [hm]
      simp only [Eff.app, setLive, Eff.nwKeys, List.map_cons, List.map_nil, Option.getD_some] at ht
      by_cases q : τ = (d, 0, σ.ep)
      · subst q
        exact ⟨_, e, sz, 0, [], upd_same _ _ _, World.ownsRow_nil w 0 e sz, fun g hg => by simp [Value.ownBlock] at hg⟩
      · rw [upd_ne _ _ q] at ht
        obtain ⟨x, e', sz', n, xs, h1, h2, h3⟩ := h.own τ ht
        exact ⟨x, e', sz', n, xs, hle.O _ _ h1, h2, h3⟩
    · intro τ τ' x x' g a b hx hx' hg hg'
      simp only [Eff.app, setLive, Eff.nwKeys, List.map_cons, List.map_nil, Option.getD_some] at a b
      rcases hO τ x hx with ⟨hx, q⟩ | ⟨rfl, rfl⟩
      · rcases hO τ' x' hx' with ⟨hx', q'⟩ | ⟨rfl, rfl⟩
        · rw [upd_ne _ _ q] at a; rw [upd_ne _ _ q'] at b
          exact h.odis τ τ' x x' g a b hx hx' hg hg'
        · simp [Value.ownBlock] at hg'
      · simp [Value.ownBlock] at hg
theorem stepF_rowM {σ : St} {w w' : World} {c : Cfg} (h : HS σ w c) (d : Nat) (val : PV) (rms rd : List Key) (row : Option Nat) (e : TypeId) (sz n' : Nat) (x' : Value) (xs' : List Value) (cs' : List PV)
    (hfM : c.M (d, 0, σ.ep) = none) (hfO : c.O (d, 0, σ.ep) = none) (hx' : w'.ownsRow 0 e sz x' n' xs') (hcs : cs'.length = n' * sz) (hcr : CellsR c cs' fun j => xs'[j]?)
    (hg : w.grownBy w' row) (hrow : ∀ g, row = some g → ∃ τ ∈ rms, (∃ cs, σ.mem τ = some cs) ∧ c.M τ = some g) (hnew : ∀ g, x'.ownBlock = some g → (∃ τ ∈ rms, (∃ cs, σ.mem τ = some cs) ∧ c.M τ = some g) ∨ w.heap.size ≤ g) :
    StepF σ (some d) { val := val, al := [(0, cs')], rd := rd, rm := rms } w w' c
      { K := c.K, M := upd c.M (d, 0, σ.ep) x'.ownBlock, O := upd c.O (d, 0, σ.ep) (some (x', e, sz)) } := by
  have hMo : ∀ k, k ≠ (d, 0, σ.ep) → upd c.M (d, 0, σ.ep) x'.ownBlock k = c.M k := fun k e => upd_ne _ _ e
  have hOo : ∀ k, k ≠ (d, 0, σ.ep) → upd c.O (d, 0, σ.ep) (some (x', e, sz)) k = c.O k := fun k e => upd_ne _ _ e
  have hle : c.le { K := c.K, M := upd c.M (d, 0, σ.ep) x'.ownBlock, O := upd c.O (d, 0, σ.ep) (some (x', e, sz)) } := by
    refine ⟨fun _ _ _ x => x, fun k b hk => ?_, fun k x hk => ?_⟩
    · show upd c.M _ _ k = some b
      rw [hMo k (fun e => by rw [e, hfM] at hk; cases hk)]; exact hk
    · show upd c.O _ _ k = some x
      rw [hOo k (fun e => by rw [e, hfO] at hk; cases hk)]; exact hk
  have hmem : ∀ k cs, (Eff.app (some d) { val := val, al := [(0, cs')], rd := rd, rm := rms } σ).mem k = some cs → (k = (d, 0, σ.ep) ∧ cs = cs') ∨ (k ≠ (d, 0, σ.ep) ∧ k ∉ rms ∧ σ.mem k = some cs) := by
    intro k cs hk
    simp only [Eff.app, wrMem, Eff.alKeys, List.map_cons, List.map_nil, Option.getD_some] at hk
    by_cases e : k = (d, 0, σ.ep)
    · subst e; rw [upd_same] at hk; exact .inl ⟨rfl, (Option.some.inj hk).symm⟩
    · rw [upd_ne _ _ e, rmMem_eq] at hk
      split at hk
      · cases hk
      · rename_i q; exact .inr ⟨e, q, hk⟩
  have hnk : ∀ k, k ∉ rms → ∀ cs, σ.mem k = some cs → ∀ b, c.M k = some b → row ≠ some b := by
    intro k hk cs hm b hb hr
    obtain ⟨τ, h1, ⟨cs2, h2⟩, h3⟩ := hrow b hr
    exact hk (by rw [h.minj k τ cs cs2 b hm h2 hb h3]; exact h1)
  have hhb : ∀ k, k ∉ rms → ∀ cs, σ.mem k = some cs → ∀ b, c.M k = some b → w'.heap[b]? = w.heap[b]? :=
    fun k hk cs hm b hb => hg.block b (h.mlt k b hb) (fun q => hnk k hk cs hm b hb q.symm)
  have hKb : ∀ b o v, c.K b o = some v → row ≠ some b := by
    intro b o v hk hr
    obtain ⟨τ, h1, ⟨cs2, h2⟩, h3⟩ := hrow b hr
    rw [h.mblk τ cs2 b h2 h3 o] at hk; cases hk
  have hnew' : ∀ k, k ∉ rms → ∀ cs, σ.mem k = some cs → ∀ b, c.M k = some b → x'.ownBlock ≠ some b := by
    intro k hk cs hm b hb hx
    rcases hnew b hx with ⟨τ, h1, ⟨cs2, h2⟩, h3⟩ | hlt
    · exact hk (by rw [h.minj k τ cs cs2 b hm h2 hb h3]; exact h1)
    · exact absurd (h.mlt k b hb) (by omega)
  refine ⟨hle, hg.os, hg.tape, hg.output, hg.size, fun b hb hn => hg.block b hb (fun q => hn ?_), fun _ _ _ _ => rfl, fun k b hk => ?_, fun k x hk => ?_, ?_⟩
  · obtain ⟨τ, h1, _, h3⟩ := hrow b q.symm
    exact .inr (.inr ⟨τ, h1, h3⟩)
  · by_cases q : k = (d, 0, σ.ep)
    · subst q
      have hk : upd c.M (d, 0, σ.ep) x'.ownBlock (d, 0, σ.ep) = some b := hk
      rw [upd_same] at hk
      refine .inr ⟨.inr ⟨0, cs', by simp, rfl⟩, ?_⟩
      rcases hnew b hk with ⟨τ, h1, _, h3⟩ | hlt
      · exact .inr (.inr (.inr ⟨τ, h1, h3⟩))
      · exact .inl hlt
    · exact .inl (by rw [← hMo k q]; exact hk)
  · by_cases q : k = (d, 0, σ.ep)
    · subst q
      have hk : upd c.O (d, 0, σ.ep) (some (x', e, sz)) (d, 0, σ.ep) = some x := hk
      rw [upd_same] at hk
      obtain rfl := Option.some.inj hk
      refine .inr ⟨.inr ⟨0, cs', by simp, rfl⟩, fun g hg' => ?_⟩
      rcases hnew g hg' with ⟨τ, h1, _, h3⟩ | hlt
      · exact .inr (.inr (.inr ⟨τ, h1, h3⟩))
      · exact .inl hlt
    · exact .inl (by rw [← hOo k q]; exact hk)
  · refine ⟨fun b o v hk => ?_, fun k cs hk => ?_, fun k b hk => ?_, fun k cs b hk hb => ?_, fun k k' c1 c2 b hk hk' hb hb' => ?_, fun τ ht => ?_, fun τ τ' x y g a b hx hy => ?_, h.gk⟩
    · rw [World.cell?_of_block (hg.block b (h.klt hk) (fun q => hKb b o v hk q.symm))]; exact h.kin b o v hk
    · rcases hmem k cs hk with ⟨rfl, rfl⟩ | ⟨e', hr, hk⟩
      · exact .inr ⟨x', e, sz, n', xs', upd_same _ _ _, hx', upd_same _ _ _, hcs, hcr.mono hle⟩
      · exact (h.box k cs hk).kept hle (hMo k e') (hOo k e') (hhb k hr cs hk)
    · by_cases q : k = (d, 0, σ.ep)
      · subst q
        have hk : upd c.M (d, 0, σ.ep) x'.ownBlock (d, 0, σ.ep) = some b := hk
        rw [upd_same] at hk
        exact (hx'.lt b hk).2
      · exact Nat.lt_of_lt_of_le (h.mlt k b (by rw [← hMo k q]; exact hk)) hg.size
    · intro o
      rcases hmem k cs hk with ⟨rfl, rfl⟩ | ⟨e', hr, hk⟩
      · have hb : upd c.M (d, 0, σ.ep) x'.ownBlock (d, 0, σ.ep) = some b := hb
        rw [upd_same] at hb
        show c.K b o = none
        rcases hnew b hb with ⟨τ, h1, ⟨cs2, h2⟩, h3⟩ | hlt
        · exact h.mblk τ cs2 b h2 h3 o
        · cases ho : c.K b o with
          | none => rfl
          | some v => exact absurd (h.klt ho) (by omega)
      · exact h.mblk k cs b hk (by rw [← hMo k e']; exact hb) o
    · rcases hmem k c1 hk with ⟨e1, rfl⟩ | ⟨e1, hr1, hk1⟩ <;> rcases hmem k' c2 hk' with ⟨e2, rfl⟩ | ⟨e2, hr2, hk2⟩
      · rw [e1, e2]
      · subst e1
        have hb : upd c.M (d, 0, σ.ep) x'.ownBlock (d, 0, σ.ep) = some b := hb
        rw [upd_same] at hb
        exact absurd hb (hnew' k' hr2 c2 hk2 b (by rw [← hMo k' e2]; exact hb'))
      · subst e2
        have hb' : upd c.M (d, 0, σ.ep) x'.ownBlock (d, 0, σ.ep) = some b := hb'
        rw [upd_same] at hb'
        exact absurd hb' (hnew' k hr1 c1 hk1 b (by rw [← hMo k e1]; exact hb))
      · exact h.minj k k' c1 c2 b hk1 hk2 (by rw [← hMo k e1]; exact hb) (by rw [← hMo k' e2]; exact hb')
    · simp only [Eff.app, setLive, Eff.nwKeys, List.map_nil] at ht
      obtain ⟨y, e', sz', m, ys, h1, h2, h3⟩ := h.own τ ht
      have hrb : ∀ g, y.ownBlock = some g → row ≠ some g := by
        intro g hgy hr
        obtain ⟨τ', g1, ⟨cs2, g2⟩, g3⟩ := hrow g hr
        exact (h3 g hgy).2 τ' cs2 g2 g3
      refine ⟨y, e', sz', m, ys, hle.O _ _ h1, ownsRow_keptB h2 (fun g hgy => hg.block g (h2.lt g hgy).2 (fun q => hrb g hgy q.symm)), fun g hgy => ⟨(h3 g hgy).1, fun k cs hk hb => ?_⟩⟩
      rcases hmem k cs hk with ⟨rfl, rfl⟩ | ⟨e1, hr1, hk⟩
      · have hb : upd c.M (d, 0, σ.ep) x'.ownBlock (d, 0, σ.ep) = some g := hb
        rw [upd_same] at hb
        rcases hnew g hb with ⟨τ', g1, ⟨cs2, g2⟩, g3⟩ | hlt
        · exact (h3 g hgy).2 τ' cs2 g2 g3
        · exact absurd (h2.lt g hgy).2 (by omega)
      · exact (h3 g hgy).2 k cs hk (by rw [← hMo k e1]; exact hb)
    · simp only [Eff.app, setLive, Eff.nwKeys, List.map_nil] at a b
      have hne : ∀ τ, σ.live τ = true → τ ≠ (d, 0, σ.ep) := by
        rintro τ ht rfl
        obtain ⟨y, e', sz', m, ys, h1, _⟩ := h.own _ ht
        rw [hfO] at h1; cases h1
      exact h.odis τ τ' x y g a b (by rw [← hOo τ (hne τ a)]; exact hx) (by rw [← hOo τ' (hne τ' b)]; exact hy)
theorem stepF_freeze {σ : St} {w : World} {c : Cfg} (h : HS σ w c) (dst : Option Nat) (val : PV) (rd : List Key) (k : Key) (b : Nat) (cs : List PV) (f : Nat → Value)
    (hm : σ.mem k = some cs) (hb : c.M k = some b) (hf : ∀ j, j < cs.length → w.cell? ⟨b, j, none⟩ = some (f j)) :
    StepF σ dst { val := val, rd := rd, rm := [k] } w w c { c with K := fun b' o => if b' = b then (if o < cs.length then some (f o) else none) else c.K b' o } := by
  have hk0 := h.mblk k cs b hm hb
  have hle : c.le { c with K := fun b' o => if b' = b then (if o < cs.length then some (f o) else none) else c.K b' o } := by
    refine ⟨fun b' o v hk => ?_, fun _ _ q => q, fun _ _ q => q⟩
    show (if b' = b then _ else _) = _
    rw [if_neg (fun e => by rw [e, hk0 o] at hk; cases hk)]
    exact hk
  have hmem : ∀ k' cs', (Eff.app dst { val := val, rd := rd, rm := [k] } σ).mem k' = some cs' → k' ≠ k ∧ σ.mem k' = some cs' := by
    intro k' cs' hk'
    simp only [Eff.app, wrMem, Eff.alKeys, List.map_nil, rmMem_eq, List.mem_singleton] at hk'
    split at hk'
    · cases hk'
    · rename_i q; exact ⟨q, hk'⟩
  refine ⟨hle, rfl, rfl, rfl, Nat.le_refl _, fun _ _ _ => rfl, fun b' o _ hn => ?_, fun _ _ hk => .inl hk, fun _ _ hk => .inl hk, ?_⟩
  · show (if b' = b then _ else _) = _
    rw [if_neg (fun e => hn (.inr (.inr ⟨k, by simp, by rw [e]; exact hb⟩)))]
  · refine ⟨fun b' o v hk => ?_, fun k' cs' hk' => ?_, h.mlt, fun k' cs' b' hk' hb' o => ?_, fun k1 k2 c1 c2 b' h1 h2 => h.minj k1 k2 c1 c2 b' (hmem _ _ h1).2 (hmem _ _ h2).2, fun τ ht => ?_, fun τ τ' x x' g a b => ?_, GK_mono h.gk hle.K⟩
    · have hk : (if b' = b then (if o < cs.length then some (f o) else none) else c.K b' o) = some v := hk
      by_cases e : b' = b
      · rw [if_pos e] at hk
        by_cases hl : o < cs.length
        · rw [if_pos hl] at hk; rw [e, hf o hl]; exact hk
        · rw [if_neg hl] at hk; cases hk
      · rw [if_neg e] at hk; exact h.kin b' o v hk
    · exact (h.box k' cs' (hmem _ _ hk').2).kept hle rfl rfl (fun _ _ => rfl)
    · obtain ⟨e, hk'⟩ := hmem _ _ hk'
      show (if b' = b then _ else _) = _
      rw [if_neg (fun (q : b' = b) => e (h.minj k' k cs' cs b hk' hm (by rw [← q]; exact hb') hb))]
      exact h.mblk k' cs' b' hk' hb' o
    · simp only [Eff.app, setLive, Eff.nwKeys, List.map_nil] at ht
      obtain ⟨x, e, sz, n, xs, h1, h2, h3⟩ := h.own τ ht
      refine ⟨x, e, sz, n, xs, h1, h2, fun g hg => ⟨fun o v hk => ?_, fun k' cs' hk' => (h3 g hg).2 k' cs' (hmem _ _ hk').2⟩⟩
      have hk : (if g = b then _ else _) = some v := hk
      rw [if_neg (fun (q : g = b) => (h3 g hg).2 k cs hm (by rw [q]; exact hb))] at hk
      exact (h3 g hg).1 o v hk
    · simp only [Eff.app, setLive, Eff.nwKeys, List.map_nil] at a b
      exact h.odis τ τ' x x' g a b
end Go.Proofs.YtbeafnkcimfeeaaGreatDoor.AM
/- The abstract machine (4): a literal row; an append. -/
namespace Go.Proofs.YtbeafnkcimfeeaaGreatDoor.AM
set_option linter.unusedVariables false
set_option linter.unusedSimpArgs false
open Go.RowKit
set_option linter.unusedVariables false
set_option linter.unusedSimpArgs false
def flat (m sz : Nat) (f : Nat → Nat → Value) : List Value := (List.range (m * sz)).map fun q => f (q / sz) (q % sz)
theorem flat_length (m sz : Nat) (f : Nat → Nat → Value) : (flat m sz f).length = m * sz := by simp [flat]
theorem idx_lt {m sz i j : Nat} (hi : i < m) (hj : j < sz) : i * sz + j < m * sz :=
  calc i * sz + j < i * sz + sz := Nat.add_lt_add_left hj _
    _ = (i + 1) * sz := (Nat.succ_mul i sz).symm
    _ ≤ m * sz := Nat.mul_le_mul_right _ hi
theorem idx_div {sz i j : Nat} (hj : j < sz) : (i * sz + j) / sz = i ∧ (i * sz + j) % sz = j := by
  have hp : 0 < sz := Nat.lt_of_le_of_lt (Nat.zero_le _) hj
  constructor
  · rw [Nat.add_comm, Nat.add_mul_div_right _ _ hp, Nat.div_eq_of_lt hj, Nat.zero_add]
  · rw [Nat.add_comm, Nat.add_mul_mod_self_right, Nat.mod_eq_of_lt hj]
theorem flat_get {m sz : Nat} {f : Nat → Nat → Value} {i j : Nat} (hi : i < m) (hj : j < sz) : (flat m sz f)[i * sz + j]? = some (f i j) := by
  have h := idx_lt hi hj
  obtain ⟨h1, h2⟩ := idx_div (i := i) hj
  simp [flat, h, h1, h2]
theorem flat_some {m sz : Nat} {f : Nat → Nat → Value} {q : Nat} {u : Value} (h : (flat m sz f)[q]? = some u) : q < m * sz ∧ u = f (q / sz) (q % sz) := by
  simp only [flat, List.getElem?_map, Option.map_eq_some_iff] at h
  obtain ⟨a, h1, rfl⟩ := h
  obtain ⟨h2, h3⟩ := List.getElem?_eq_some_iff.1 h1
  simp at h2 h3
  subst h3
  exact ⟨h2, rfl⟩
theorem addr_add (b o j : Nat) : (⟨b, o, none⟩ : Addr).add j = ⟨b, o + j, none⟩ := by
  unfold Addr.add; split <;> simp_all
theorem run_append_room' {P : Program} (w : World) (t ty e e' : TypeId) (i : TypeInfo) (ht : P.underlying t = some (.slice e)) (hi : P.info? e = some i)
    (g sLen sCap : Nat) (cur : Array Value) (hg : w.heap[g]? = some (.cells cur e' (0, 0)))
    (a : Addr) (m c : Nat) (news : List Value) (hl : news.length = m * i.size) (hnews : ∀ (j : Nat) (u : Value), news[j]? = some u → w.cell? (a.add j) = some u) (h1 : ∀ u ∈ news, u.oneCell' = true)
    (hroom : sLen + m ≤ sCap) (hfit : sLen * i.size + news.length ≤ cur.size) :
    (Builtin.append_ #[t, t] ty #[.slice (some ⟨g, 0, none⟩) sLen sCap, .slice (some a) m c]).run P w =
      .ok (.slice (some ⟨g, 0, none⟩) (sLen + m) sCap) (w.setRow g (cur.toList.take (sLen * i.size) ++ news ++ cur.toList.drop (sLen * i.size + news.length)).toArray) := by
  have hf := run_firstCells_some (P := P) w i.size m a m c news hl hnews
  have hst := run_storeCells_at P g (sLen * i.size) e' news 0 cur w hg (by simpa using hfit) h1
  simp only [Nat.add_zero] at hst
  simp [Builtin.append_, run_underlying ht, sizeOf, typeInfo, hi, Builtin.lenOf, hroom, hf, addr_add, hst]
theorem run_append_acc {P : Program} (w : World) (t ty e e' : TypeId) (i : TypeInfo) (z : Value) (ht : P.underlying t = some (.slice e)) (hi : P.info? e = some i) (hz : i.zero = some z)
    (hzs : z.cells.size = i.size) (v : Value) (n : Nat) (xs : List Value) (hown : w.ownsRow 0 e' i.size v n xs)
    (a : Addr) (m c : Nat) (news : List Value) (hl : news.length = m * i.size) (hnews : ∀ (j : Nat) (u : Value), news[j]? = some u → w.cell? (a.add j) = some u) (h1 : ∀ u ∈ news, u.oneCell' = true)
    (h63 : n + m ≤ maxLen) (hbytes : (n + m) * i.bytes ≤ 140737488355328) :
    ∃ v' w' e'', (Builtin.append_ #[t, t] ty #[v, .slice (some a) m c]).run P w = .ok v' w' ∧ w'.ownsRow 0 e'' i.size v' (n + m) (xs ++ news) ∧
      ((v'.ownBlock = v.ownBlock ∧ w.grownBy w' v.ownBlock) ∨ (v'.ownBlock = some w.heap.size ∧ w.grownBy w' none)) := by
  have hlen : (xs ++ news).length = (n + m) * i.size := by rw [List.length_append, hown.1, hl, Nat.add_mul]
  have hm63 : ((n + m : Nat) : Int) ≤ 9223372036854775807 := by simp only [maxLen] at h63; omega
  have grown : ∀ (old : Nat), old < n + m →
      (w.drew.alloc (.cells (xs.toArray ++ news.toArray ++ Builtin.zeroCells z.cells (grownCap w (n + m) old e - (n + m))) e)).ownsRow 0 e i.size
        (.slice (some ⟨w.heap.size, 0, none⟩) (n + m) (grownCap w (n + m) old e)) (n + m) (xs ++ news) ∧
      w.grownBy (w.drew.alloc (.cells (xs.toArray ++ news.toArray ++ Builtin.zeroCells z.cells (grownCap w (n + m) old e - (n + m))) e)) none := by
    intro old ho
    have hge := grownCap_ge w (n + m) old e
    refine ⟨⟨hlen, .inr ⟨w.heap.size, _, _, rfl, Nat.zero_le _, heap_alloc_new w.drew _, hge, grownCap_le_maxLen w (n + m) old e h63, ?_, ?_⟩⟩, ⟨rfl, rfl, rfl, by simp, fun k hk _ => Below.heap_alloc _ _ _ (by simpa using hk)⟩⟩
    · simp only [Array.size_append, List.size_toArray, size_zeroCells, hzs, hown.1, hl, ← Nat.add_mul]
      congr 1
      omega
    · simp only [Array.toList_append, List.append_assoc]
      rw [← List.append_assoc, ← hlen]
      exact List.take_left
  rcases hown.2 with ⟨rfl, rfl⟩ | ⟨g, cap, cur, rfl, hbg, hg, hnc, hcm, hcs, htake⟩
  · have hx : xs = [] := List.eq_nil_of_length_eq_zero (by simpa using hown.1)
    subst hx
    by_cases hm : m = 0
    · subst hm
      have hn : news = [] := List.eq_nil_of_length_eq_zero (by simpa using hl)
      subst hn
      refine ⟨.slice none 0 0, w, e, ?_, World.ownsRow_nil w 0 e i.size, .inl ⟨rfl, ⟨rfl, rfl, rfl, Nat.le_refl _, fun _ _ _ => rfl⟩⟩⟩
      simp [Builtin.append_, run_underlying ht, sizeOf, typeInfo, hi, Builtin.lenOf, Builtin.firstCells, loadCells, loadCellsFrom]
    · have hr := run_append_nil (P := P) w t ty e i z ht hi hz a m c news hl hnews (by omega) (by omega) (by simp only [Nat.zero_add] at hbytes; omega)
      have hgr := grown 0 (by omega)
      simp only [Nat.zero_add, List.nil_append, Array.empty_append] at hgr ⊢
      exact ⟨_, _, _, hr, hgr.1, .inr ⟨rfl, hgr.2⟩⟩
  · by_cases hroom : n + m ≤ cap
    · have hfit : n * i.size + news.length ≤ cur.size := by rw [hl, hcs, ← Nat.add_mul]; exact Nat.mul_le_mul_right _ hroom
      have hr := run_append_room' (P := P) w t ty e e' i ht hi g n cap cur hg a m c news hl hnews h1 hroom hfit
      refine ⟨_, _, e', hr, ⟨hlen, .inr ⟨g, cap, _, rfl, hbg, setRow_heap w g cur _ e' _ hg, hroom, hcm, ?_, ?_⟩⟩, .inl ⟨rfl, ⟨rfl, rfl, rfl, by simp, fun k _ hk => setRow_other w g k _ (fun q => hk (by simp [Value.ownBlock, q]))⟩⟩⟩
      · simp only [List.size_toArray, List.length_append, List.length_take, List.length_drop, Array.length_toList]
        omega
      · rw [htake, ← hlen]
        exact List.take_left
    · have holds : ∀ (j : Nat) (u : Value), xs[j]? = some u → w.cell? ((⟨g, 0, none⟩ : Addr).add j) = some u := hown.cells (g := g) rfl
      have hr := run_append_grow (P := P) w t ty e i z ht hi hz ⟨g, 0, none⟩ n cap xs hown.1 holds a m c news hl hnews (by omega) (by omega) (growslice_fits (by omega) hbytes)
      have hgr := grown cap (by omega)
      exact ⟨_, _, _, hr, hgr.1, .inr ⟨rfl, hgr.2⟩⟩
def knowRow (K : Known) (g : Nat) (xs : List Value) : Known := fun b o => if b = g then xs[o]? else K b o
def rowK (K : Known) (x : Value) (xs : List Value) : Known := match x.ownBlock with | some g => knowRow K g xs | none => K
theorem rowK_some {K : Known} {x : Value} {xs : List Value} {g : Nat} (h : x.ownBlock = some g) : rowK K x xs = knowRow K g xs := by simp [rowK, h]
theorem rowK_none {K : Known} {x : Value} {xs : List Value} (h : x.ownBlock = none) : rowK K x xs = K := by simp [rowK, h]
theorem setLive_eq (v : Bool) : ∀ (ks : List Key) (l : Key → Bool) (k : Key), setLive v ks l k = if k ∈ ks then v else l k
  | [], l, k => by simp [setLive]
  | a :: r, l, k => by
    rw [setLive, setLive_eq v r]
    by_cases h : k ∈ r
    · simp [h]
    · by_cases q : k = a
      · subst q; simp [h]
      · rw [upd_ne _ _ q]; simp [h, q]
theorem World.ownsRow_at {w : World} {e : TypeId} {sz n : Nat} {x : Value} {xs : List Value} {g : Nat} (h : w.ownsRow 0 e sz x n xs) (hg : x.ownBlock = some g) :
    ∃ cap, x = .slice (some ⟨g, 0, none⟩) n cap ∧ n ≤ cap ∧ cap ≤ maxLen ∧ ∀ j, j < n * sz → w.cell? ⟨g, j, none⟩ = xs[j]? := by
  have hq := h
  rcases h.2 with ⟨rfl, _⟩ | ⟨g', cap, cur, rfl, _, hh, hn, hm, _, _⟩
  · simp [Value.ownBlock] at hg
  · simp [Value.ownBlock] at hg
    subst hg
    exact ⟨cap, rfl, hn, hm, fun j hj => hq.cellAt j hj⟩
theorem stepF_row {σ : St} {w w' : World} {c : Cfg} (h : HS σ w c) (d : Nat) (val : PV) (us : List Key) (e0 e : TypeId) (sz n n' : Nat) (x x' : Value) (xs xs' : List Value)
    (hf : c.O (d, 0, σ.ep) = none) (hx : w.ownsRow 0 e0 sz x n xs) (hx' : w'.ownsRow 0 e sz x' n' xs') (hpre : ∃ r, xs' = xs ++ r)
    (hg : (x'.ownBlock = x.ownBlock ∧ w.grownBy w' x.ownBlock) ∨ (x'.ownBlock = some w.heap.size ∧ w.grownBy w' none))
    (hfM : c.M (d, 0, σ.ep) = none)
    (hown : ∀ g, x.ownBlock = some g → (∀ o v, c.K g o = some v → o < n * sz) ∧ (∀ k cs, σ.mem k = some cs → c.M k ≠ some g) ∧ (∀ τ, σ.live τ = true → τ ∉ us → ∀ y, c.O τ = some y → y.1.ownBlock ≠ some g) ∧
      ∃ τ ∈ us, ∃ y, c.O τ = some y ∧ y.1.ownBlock = some g) :
    StepF σ (some d) { val := val, use := us, nw := [0] } w w' c
      { K := rowK c.K x' xs', M := c.M, O := upd c.O (d, 0, σ.ep) (some (x', e, sz)) } ∧
    (∀ g, x'.ownBlock = some g → ∀ b o v, c.K b o = some v → knowRow c.K g xs' b o = some v) := by
  have hgb : ∃ row, w.grownBy w' row ∧ (∀ g, x'.ownBlock = some g → row = some g ∨ g = w.heap.size) ∧ (∀ g, row = some g → x.ownBlock = some g ∧ x'.ownBlock = some g) := by
    rcases hg with ⟨h1, h2⟩ | ⟨h1, h2⟩
    · exact ⟨_, h2, fun g hg => .inl (h1 ▸ hg), fun g hg => ⟨hg, h1.trans hg⟩⟩
    · exact ⟨_, h2, fun g hg => .inr (Option.some.inj (hg.symm.trans h1)), fun g hg => by cases hg⟩
  obtain ⟨row, hgr, hr1, hr2⟩ := hgb
  have hK : ∀ g, x'.ownBlock = some g → ∀ b o v, c.K b o = some v → knowRow c.K g xs' b o = some v := by
    intro g hg b o v hk
    unfold knowRow
    by_cases q : b = g
    · subst q
      rw [if_pos rfl]
      rcases hr1 b hg with hrow | rfl
      · obtain ⟨hxo, _⟩ := hr2 b hrow
        have hlt := (hown b hxo).1 o v hk
        obtain ⟨cap, _, _, _, hc⟩ := World.ownsRow_at hx hxo
        have h1 := hc o hlt
        rw [h.kin b o v hk] at h1
        obtain ⟨r, rfl⟩ := hpre
        rw [List.getElem?_append_left (by rw [hx.1]; exact hlt)]
        exact h1.symm
      · exact absurd (h.klt hk) (Nat.lt_irrefl _)
    · rw [if_neg q]; exact hk
  refine ⟨?_, hK⟩
  have hO : ∀ k y, upd c.O (d, 0, σ.ep) (some (x', e, sz)) k = some y → (c.O k = some y ∧ k ≠ (d, 0, σ.ep)) ∨ (k = (d, 0, σ.ep) ∧ y = (x', e, sz)) := by
    intro k y hk
    by_cases q : k = (d, 0, σ.ep)
    · subst q; rw [upd_same] at hk; exact .inr ⟨rfl, (Option.some.inj hk).symm⟩
    · rw [upd_ne _ _ q] at hk; exact .inl ⟨hk, q⟩
  have hOle : ∀ k y, c.O k = some y → upd c.O (d, 0, σ.ep) (some (x', e, sz)) k = some y := fun k y hk => by
    rw [upd_ne _ _ (fun q => by rw [q, hf] at hk; cases hk)]; exact hk
  have hKle : ∀ b o v, c.K b o = some v → rowK c.K x' xs' b o = some v := by
    intro b o v hk
    cases hb : x'.ownBlock with
    | none => rw [rowK_none hb]; exact hk
    | some g => rw [rowK_some hb]; exact hK g hb b o v hk
  have hle : c.le { K := rowK c.K x' xs', M := c.M, O := upd c.O (d, 0, σ.ep) (some (x', e, sz)) } := ⟨hKle, fun _ _ q => q, hOle⟩
  have hKn : ∀ b o v, rowK c.K x' xs' b o = some v → c.K b o = some v ∨ (x'.ownBlock = some b ∧ xs'[o]? = some v) := by
    intro b o v hk
    cases hb : x'.ownBlock with
    | none => rw [rowK_none hb] at hk; exact .inl hk
    | some g =>
      rw [rowK_some hb] at hk
      unfold knowRow at hk
      by_cases q : b = g
      · subst q; rw [if_pos rfl] at hk; exact .inr ⟨rfl, hk⟩
      · rw [if_neg q] at hk; exact .inl hk
  have htch : ∀ g, x.ownBlock = some g → touched { val := val, use := us, nw := [0] } c g := fun g hg => .inr (.inl (hown g hg).2.2.2)
  have hm : (Eff.app (some d) { val := val, use := us, nw := [0] } σ).mem = σ.mem := by simp [Eff.app, wrMem, rmMem, Eff.alKeys]
  have hkinOld : ∀ b o v, c.K b o = some v → x'.ownBlock ≠ some b → w'.cell? ⟨b, o, none⟩ = some v := by
    intro b o v hk hne
    refine hgr.cell (h.kin b o v hk) (fun q => hne ?_)
    exact (hr2 b q.symm).2
  refine ⟨hle, hgr.os, hgr.tape, hgr.output, hgr.size, fun b hb hn => ?_, fun b o hb hn => ?_, fun _ _ q => .inl q, fun τ y hy => ?_, ?_⟩
  · exact hgr.block b hb (fun q => hn (htch b (hr2 b q.symm).1))
  · cases hb' : x'.ownBlock with
    | none => show rowK c.K x' xs' b o = _; rw [rowK_none hb']
    | some g =>
      show rowK c.K x' xs' b o = c.K b o
      rw [rowK_some hb']
      unfold knowRow
      rw [if_neg (fun q => ?_)]
      subst q
      rcases hr1 b hb' with hrow | rfl
      · exact hn (htch b (hr2 b hrow).1)
      · exact absurd hb (Nat.lt_irrefl _)
  · rcases hO τ y hy with ⟨hy, _⟩ | ⟨rfl, rfl⟩
    · exact .inl hy
    · refine .inr ⟨.inl ⟨0, by simp, rfl⟩, fun g hg => ?_⟩
      rcases hr1 g hg with hrow | rfl
      · exact .inr (htch g (hr2 g hrow).1)
      · exact .inl (Nat.le_refl _)
  · refine ⟨?_, ?_, ?_, ?_, by rw [hm]; exact h.minj, ?_, ?_, GK_mono h.gk hle.K⟩
    · intro b o v hk
      by_cases hb : x'.ownBlock = some b
      · obtain ⟨cap, _, _, _, hc⟩ := World.ownsRow_at hx' hb
        have hv : xs'[o]? = some v := by
          rcases hKn b o v hk with h1 | ⟨_, h1⟩
          · have := hK b hb b o v h1
            unfold knowRow at this
            rwa [if_pos rfl] at this
          · exact h1
        rw [hc o (by rw [← hx'.1]; exact (List.getElem?_eq_some_iff.1 hv).1)]
        exact hv
      · rcases hKn b o v hk with h1 | ⟨h1, _⟩
        · exact hkinOld b o v h1 hb
        · exact absurd h1 hb
    · intro k cs hk
      rw [hm] at hk
      refine (h.box k cs hk).kept hle rfl (upd_ne _ _ (fun q => ?_)) (fun b hb => hgr.block b (h.mlt k b hb) (fun q => (hown b (hr2 b q.symm).1).2.1 k cs hk hb))
      rw [q, h.fresh hfM hf] at hk; cases hk
    · exact fun k b hk => Nat.lt_of_lt_of_le (h.mlt k b hk) hgr.size
    · intro k cs b hk hkb o
      rw [hm] at hk
      show rowK c.K x' xs' b o = none
      cases ho : rowK c.K x' xs' b o with
      | none => rfl
      | some v =>
        rcases hKn b o v ho with h1 | ⟨h1, _⟩
        · rw [h.mblk k cs b hk hkb o] at h1; cases h1
        · rcases hr1 b h1 with hrow | rfl
          · exact absurd hkb ((hown b (hr2 b hrow).1).2.1 k cs hk)
          · exact absurd (h.mlt k _ hkb) (Nat.lt_irrefl _)
    · intro τ ht
      simp only [Eff.app, Eff.nwKeys, List.map_cons, List.map_nil, Option.getD_some] at ht
      by_cases q : τ = (d, 0, σ.ep)
      · subst q
        refine ⟨x', e, sz, n', xs', upd_same _ _ _, hx', fun g hg => ⟨fun o v hk => ?_, fun k cs hk => ?_⟩⟩
        · rcases hKn g o v hk with h1 | ⟨_, h1⟩
          · have := hK g hg g o v h1
            unfold knowRow at this
            rw [if_pos rfl] at this
            rw [← hx'.1]; exact (List.getElem?_eq_some_iff.1 this).1
          · rw [← hx'.1]; exact (List.getElem?_eq_some_iff.1 h1).1
        · intro hkb
          rw [hm] at hk
          rcases hr1 g hg with hrow | rfl
          · exact (hown g (hr2 g hrow).1).2.1 k cs hk hkb
          · exact absurd (h.mlt k _ hkb) (Nat.lt_irrefl _)
      · simp only [setLive] at ht
        rw [upd_ne _ _ q, setLive_eq] at ht
        have hnu : τ ∉ us ∧ σ.live τ = true := by
          by_cases hu : τ ∈ us
          · rw [if_pos hu] at ht; cases ht
          · rw [if_neg hu] at ht; exact ⟨hu, ht⟩
        obtain ⟨y, e', sz', m, ys, h1, h2, h3⟩ := h.own τ hnu.2
        have hne : ∀ g, y.ownBlock = some g → x'.ownBlock ≠ some g := by
          intro g hyg hxg
          rcases hr1 g hxg with hrow | rfl
          · exact (hown g (hr2 g hrow).1).2.2.1 τ hnu.2 hnu.1 _ h1 hyg
          · exact absurd (h2.lt _ hyg).2 (Nat.lt_irrefl _)
        refine ⟨y, e', sz', m, ys, hOle _ _ h1, h2.kept hgr ?_, fun g hg => ⟨fun o v hk => ?_, by rw [hm]; exact (h3 g hg).2⟩⟩
        · cases hy : y.ownBlock with
          | none => exact .inl rfl
          | some g => exact .inr (fun q2 => hne g hy (hr2 g q2.symm).2)
        · rcases hKn g o v hk with h4 | ⟨h4, _⟩
          · exact (h3 g hg).1 o v h4
          · exact absurd h4 (hne g hg)
    · intro τ τ' y y' g a b hy hy' hg hg'
      simp only [Eff.app, Eff.nwKeys, List.map_cons, List.map_nil, Option.getD_some, setLive] at a b
      have old : ∀ τ y, c.O τ = some y → τ ≠ (d, 0, σ.ep) → upd (setLive false us σ.live) (d, 0, σ.ep) true τ = true → τ ∉ us ∧ σ.live τ = true := by
        intro τ y _ q ht
        rw [upd_ne _ _ q, setLive_eq] at ht
        by_cases hu : τ ∈ us
        · rw [if_pos hu] at ht; cases ht
        · rw [if_neg hu] at ht; exact ⟨hu, ht⟩
      have hne : ∀ τ y, c.O τ = some y → τ ∉ us → σ.live τ = true → ∀ g, y.1.ownBlock = some g → x'.ownBlock ≠ some g := by
        intro τ y h1 hu hl g hyg hxg
        obtain ⟨y2, e', sz', m, ys, h2, h3, _⟩ := h.own τ hl
        obtain rfl : y = (y2, e', sz') := Option.some.inj (h1.symm.trans h2)
        rcases hr1 g hxg with hrow | rfl
        · exact (hown g (hr2 g hrow).1).2.2.1 τ hl hu _ h1 hyg
        · exact absurd (h3.lt _ hyg).2 (Nat.lt_irrefl _)
      rcases hO τ y hy with ⟨hy, q⟩ | ⟨rfl, rfl⟩
      · obtain ⟨u1, l1⟩ := old τ y hy q a
        rcases hO τ' y' hy' with ⟨hy', q'⟩ | ⟨rfl, rfl⟩
        · obtain ⟨u2, l2⟩ := old τ' y' hy' q' b
          exact h.odis τ τ' y y' g l1 l2 hy hy' hg hg'
        · exact absurd hg' (hne τ y hy u1 l1 g hg)
      · rcases hO τ' y' hy' with ⟨hy', q'⟩ | ⟨rfl, rfl⟩
        · obtain ⟨u2, l2⟩ := old τ' y' hy' q' b
          exact absurd hg (hne τ' y' hy' u2 l2 g hg')
        · rfl
end Go.Proofs.YtbeafnkcimfeeaaGreatDoor.AM
/- The abstract machine (5): what the table of types must say; values, cells, operands. -/
namespace Go.Proofs.YtbeafnkcimfeeaaGreatDoor.AM
set_option linter.unusedVariables false
set_option linter.unusedSimpArgs false
open Go.RowKit
set_option linter.unusedVariables false
set_option linter.unusedSimpArgs false
def isAggDesc : TypeDesc → Bool
  | .struct _ | .array _ _ => true
  | _ => false
def UndOk (P : Program) (i : TyI) (d : TypeDesc) : Prop :=
  match i.ty with
  | .int k => d = .int k ∧ i.size = 1
  | .bool => d = .bool ∧ i.size = 1
  | .str => d = .string ∧ i.size = 1
  | .slice e sz bytes => d = .slice e ∧ i.size = 1 ∧ 0 < sz ∧ ∃ ie z, P.info? e = some ie ∧ ie.size = sz ∧ ie.bytes = bytes ∧ ie.zero = some z ∧ z.cells.size = sz
  | .struct fs => ∃ fields, d = .struct fields ∧ fs.length = fields.size ∧ ∀ (k : Nat) (off sz : Nat) (ag : Bool), fs[k]? = some (off, sz, ag) →
      ∃ f, fields[k]? = some f ∧ f.offset = off ∧ 0 < sz ∧ (∃ inf, P.info? f.type = some inf ∧ inf.size = sz) ∧ ∃ df, P.underlying f.type = some df ∧ isAggDesc df = ag
  | .iface => (∃ ms, d = .interface ms) ∧ i.size = 1
  | .ptr => (∃ e, d = .pointer e) ∧ i.size = 1
  | .fn => (∃ a b v, d = .func a b v) ∧ i.size = 1
  | .other => isAggDesc d = false ∧ i.size = 1
def EqOk (P : Program) (t : TypeId) (ks : List EqK) : Prop :=
  P.eqGuardType P.depth t = false ∧ ∀ (K : Known) (w : World) (xs ys : List DV) (vx vy : Array Value) (b : Bool), eqCells ks xs ys = some b → RepD K (.agg xs) (.agg vx) → RepD K (.agg ys) (.agg vy) →
    (Op.equalIn 10000 t (.agg vx) (.agg vy)).run P w = .ok b w
structure TyI.Good (P : Program) (t : TypeId) (i : TyI) : Prop where
  info : ∃ inf z, P.info? t = some inf ∧ inf.size = i.size ∧ inf.zero = some z ∧ z.cells.size = i.size ∧ i.zero.length = i.size ∧
    (∀ (j : Nat) (d : DV), i.zero[j]? = some d → (z.cells.getD j undef).oneCell' = true ∧ ∀ K, RepD K d (z.cells.getD j undef)) ∧ (i.isAgg = true → ∃ cs, z = .agg cs) ∧ (∀ ts, z ≠ .tuple ts)
  und : ∃ d, P.underlying t = some d ∧ UndOk P i d
  eq : i.eqf.isEmpty = false → EqOk P t i.eqf
section
variable {P : Program} {T : Tab} (hT : ∀ t i, T t = some i → i.Good P t)
theorem UndOk.agg {i : TyI} {d : TypeDesc} (h : UndOk P i d) : isAggDesc d = i.isAgg := by
  unfold UndOk at h
  unfold TyI.isAgg
  split at h <;> rename_i heq <;> rw [heq]
  · rw [h.1]; rfl
  · rw [h.1]; rfl
  · rw [h.1]; rfl
  · rw [h.1]; rfl
  · obtain ⟨_, rfl, _⟩ := h; rfl
  · obtain ⟨⟨_, rfl⟩, _⟩ := h; rfl
  · obtain ⟨⟨_, rfl⟩, _⟩ := h; rfl
  · obtain ⟨⟨_, _, _, rfl⟩, _⟩ := h; rfl
  · exact h.1
theorem run_isAgg_desc {t : TypeId} {d : TypeDesc} (h : P.underlying t = some d) (w : World) : (isAgg t).run P w = .ok (isAggDesc d) w := by
  unfold isAgg
  rw [Sem.run_bind, run_underlying h w]
  cases d <;> rfl
theorem TyI.Good.runAgg {t : TypeId} {i : TyI} (g : i.Good P t) (w : World) : (_root_.Go.isAgg t).run P w = .ok i.isAgg w := by
  obtain ⟨d, h1, h2⟩ := g.und
  rw [run_isAgg_desc h1 w, h2.agg]
theorem run_sizeOf_info {t : TypeId} {inf : TypeInfo} (h : P.info? t = some inf) (w : World) : (sizeOf t).run P w = .ok inf.size w := by
  simp [sizeOf, typeInfo, h]
theorem TyI.Good.runSize {t : TypeId} {i : TyI} (g : i.Good P t) (w : World) : (_root_.Go.sizeOf t).run P w = .ok i.size w := by
  obtain ⟨inf, z, h1, h2, _⟩ := g.info
  rw [run_sizeOf_info h1 w, h2]
theorem run_loadVar_aggL (w : World) (t : TypeId) (a : Addr) (L : List Value) (hagg : (isAgg t).run P w = .ok true w) (hsz : (sizeOf t).run P w = .ok L.length w)
    (h : ∀ (j : Nat) (v : Value), L[j]? = some v → w.cell? (a.add j) = some v) : (loadVar t a).run P w = .ok (.agg L.toArray) w := by
  simp [loadVar, hagg, hsz, run_loadCells_list w a L h]
theorem run_loadVar_oneL (w : World) (t : TypeId) (a : Addr) (v : Value) (hagg : (isAgg t).run P w = .ok false w) (h : w.cell? a = some v) : (loadVar t a).run P w = .ok v w := by
  simp [loadVar, hagg, h]
/-! ### Values -/
theorem asD1_sound {c : Cfg} {v : PV} {x : Value} {d : DV} (h : RepP c v x) (e : asD1 v = some d) : RepD c.K d x := by
  cases h with
  | dat d' x h => simp [asD1] at e; subst e; exact h
  | acc τ sz es x t ho h => simp [asD1] at e; subst e; exact h
  | _ => simp [asD1] at e
theorem allD1_sound : ∀ {cs : List PV} {ds : List DV}, allD1 cs = some ds → ds.length = cs.length ∧ ∀ (j : Nat) (d : DV), ds[j]? = some d → ∃ v, cs[j]? = some v ∧ asD1 v = some d
  | [], ds, h => by simp [allD1] at h; subst h; simp
  | v :: r, ds, h => by
    simp only [allD1] at h
    split at h <;> simp at h
    rename_i d l h1 h2
    subst h
    obtain ⟨h3, h4⟩ := allD1_sound h2
    refine ⟨by simp [h3], fun j d' hj => ?_⟩
    cases j with
    | zero => simp at hj; subst hj; exact ⟨v, rfl, h1⟩
    | succ j => simpa using h4 j d' (by simpa using hj)
theorem asD_sound {c : Cfg} {v : PV} {x : Value} {d : DV} (h : RepP c v x) (e : asD v = some d) : RepD c.K d x := by
  cases h with
  | dat d' x h => simp [asD] at e; subst e; exact h
  | acc τ sz es x t ho h => simp [asD] at e; subst e; exact h
  | mix cs vs hl ho hr =>
    simp only [asD, Option.map_eq_some_iff] at e
    obtain ⟨ds, h1, rfl⟩ := e
    obtain ⟨h2, h3⟩ := allD1_sound h1
    refine .agg _ _ (by rw [hl, h2]) (fun j d hj => ?_) fun j d hj => ?_
    · obtain ⟨v, h4, h5⟩ := h3 j d hj
      exact ho j v h4
    · obtain ⟨v, h4, h5⟩ := h3 j d hj
      exact asD1_sound (hr j v h4) h5
  | _ => simp [asD] at e
theorem oneD_sound {K : Known} {d : DV} {x : Value} (h : RepD K d x) (e : oneD d = true) : x.oneCell' = true := by
  cases h <;> first | rfl | (simp [oneD] at e; done) | exact e
theorem oneP_sound {c : Cfg} {v : PV} {x : Value} (h : RepP c v x) (e : oneP v = true) : x.oneCell' = true := by
  cases h with
  | dat d x h => exact oneD_sound h e
  | acc τ sz es x t ho h => exact oneD_sound h rfl
  | row τ sz x t ho h1 => exact h1
  | ptr => rfl
  | clo => rfl
  | mix => simp [oneP] at e
  | tup => simp [oneP] at e
  | ifp => rfl
  | any x h => exact h
theorem cells_one {x : Value} (h : x.oneCell' = true) : x.cells = #[x] := by
  cases x <;> first | rfl | (simp [Value.oneCell'] at h)
theorem getD_of_some {vs : Array Value} {j : Nat} {x d : Value} (h : vs[j]? = some x) : vs.getD j d = x := by simp [h]
theorem some_of_lt {vs : Array Value} {j : Nat} (d : Value) (h : j < vs.size) : vs[j]? = some (vs.getD j d) := by simp [h]
theorem cellsT_sound {c : Cfg} {i : TyI} {v : PV} {x : Value} {cs : List PV} (h : RepP c v x) (e : cellsT i v = some cs) :
    x.cells.size = i.size ∧ cs.length = i.size ∧ ∀ (j : Nat) (p : PV), cs[j]? = some p → ∃ y, x.cells[j]? = some y ∧ y.oneCell' = true ∧ RepP c p y := by
  unfold cellsT at e
  split at e
  · split at e
    · rename_i ds
      split at e <;> simp at e
      subst e
      rename_i hl
      cases h with
      | dat _ _ h =>
        cases h with
        | agg _ vs hs ho hr =>
          refine ⟨hs.trans hl, by simpa using hl, fun j p hp => ?_⟩
          simp only [List.getElem?_map, Option.map_eq_some_iff] at hp
          obtain ⟨d, hd, rfl⟩ := hp
          have hj : j < vs.size := by rw [hs]; exact (List.getElem?_eq_some_iff.1 hd).1
          exact ⟨_, some_of_lt undef hj, ho j d hd, .dat _ _ (hr j d hd)⟩
    · rename_i ds
      split at e <;> simp at e
      subst e
      rename_i hl
      cases h with
      | mix _ vs hs ho hr =>
        refine ⟨hs.trans hl, hl, fun j p hp => ?_⟩
        have hj : j < vs.size := by rw [hs]; exact (List.getElem?_eq_some_iff.1 hp).1
        exact ⟨_, some_of_lt undef hj, ho j p hp, hr j p hp⟩
    · simp at e
  · split at e <;> try (simp at e; done)
    split at e <;> simp at e
    subst e
    rename_i h1 h2
    have ho := oneP_sound h h1
    rw [cells_one ho]
    refine ⟨by simp [h2], by simp [h2], fun j p hp => ?_⟩
    cases j with
    | zero => simp at hp; subst hp; exact ⟨x, rfl, ho, h⟩
    | succ j => simp at hp
theorem allD_sound : ∀ {cs : List PV} {ds : List DV}, allD cs = some ds → ds.length = cs.length ∧ ∀ (j : Nat) (d : DV), ds[j]? = some d → ∃ v, cs[j]? = some v ∧ asD v = some d
  | [], ds, h => by simp [allD] at h; subst h; simp
  | v :: r, ds, h => by
    simp only [allD] at h
    split at h <;> simp at h
    rename_i d l h1 h2
    subst h
    obtain ⟨h3, h4⟩ := allD_sound h2
    refine ⟨by simp [h3], fun j d' hj => ?_⟩
    cases j with
    | zero => simp at hj; subst hj; exact ⟨v, rfl, h1⟩
    | succ j => simpa using h4 j d' (by simpa using hj)
theorem collect_sound {m : Bool} {c : Cfg} {cs : List PV} {vs : Array Value} (hs : vs.size = cs.length) (h : ∀ (j : Nat) (p : PV), cs[j]? = some p → (vs.getD j undef).oneCell' = true ∧ RepP c p (vs.getD j undef)) :
    RepP c (collect m cs) (.agg vs) := by
  unfold collect
  split
  · exact .mix _ _ hs (fun j p hp => (h j p hp).1) fun j p hp => (h j p hp).2
  split
  · rename_i ds hd
    obtain ⟨h1, h2⟩ := allD_sound hd
    refine .dat _ _ (.agg _ _ (by rw [hs, h1]) (fun j d hj => ?_) fun j d hj => ?_)
    · obtain ⟨v, h3, h4⟩ := h2 j d hj
      exact (h j v h3).1
    · obtain ⟨v, h3, h4⟩ := h2 j d hj
      exact asD_sound (h j v h3).2 h4
  · exact .mix _ _ hs (fun j p hp => (h j p hp).1) fun j p hp => (h j p hp).2
theorem norm1_sound {K : Known} {d : DV} {x : Value} (h : RepD K d x) : RepD K (norm1 d) x := by
  cases h <;> first | exact .nils _ | (simp only [norm1]; constructor <;> assumption)
theorem normD_sound {K : Known} {d : DV} {x : Value} (h : RepD K d x) : RepD K (normD d) x := by
  cases h with
  | agg cs vs hl ho hr =>
    refine .agg _ _ (by simp [hl]) (fun j d hj => ?_) fun j d hj => ?_
    · simp only [List.getElem?_map, Option.map_eq_some_iff] at hj
      obtain ⟨d', h1, rfl⟩ := hj
      exact ho j d' h1
    · simp only [List.getElem?_map, Option.map_eq_some_iff] at hj
      obtain ⟨d', h1, rfl⟩ := hj
      exact norm1_sound (hr j d' h1)
  | nil => exact .nils _
  | _ => simp only [normD]; constructor <;> assumption
theorem constD_sound {K : Known} {v : Value} {d : DV} (h : constD v = some d) : RepD K d v := by
  unfold constD at h
  split at h <;> simp at h
  · subst h; exact .int _ _
  · subst h; exact .bool _
  · rename_i s
    obtain ⟨h1, rfl⟩ := h
    have : s = ⟨s.data.toList.toArray⟩ := by cases s; simp
    rw [this]
    exact .str _ (by simpa using h1)
  · subst h; exact .nilI
  · subst h; exact .nil _
  · subst h; exact .raw _
  · subst h; exact .raw _
  · subst h; exact .raw _
def EnvOk (σ : St) (a : Act) (c : Cfg) : Prop := ∀ t v, σ.env t = some v → ∃ x, a.tmps[t]? = some x ∧ RepP c v x
theorem evalO_sound {σ : St} {a : Act} {c : Cfg} (he : EnvOk σ a c) {x : Operand} {v : PV} (h : evalO σ x = some v) : RepP c v (a.eval x) := by
  cases x with
  | tmp t =>
    obtain ⟨y, h1, h2⟩ := he t v h
    simp [Act.eval, h1]
    exact h2
  | const u =>
    simp only [evalO, Option.map_eq_some_iff] at h
    obtain ⟨d, h1, rfl⟩ := h
    exact .dat _ _ (constD_sound h1)
  | func f =>
    simp [evalO] at h
    subst h
    exact .clo f [] [] #[] #[] rfl (fun j v hj => by simp at hj) rfl (fun j v hj => by simp at hj)
  | global g => simp [evalO] at h
theorem evalD_sound {σ : St} {a : Act} {c : Cfg} (he : EnvOk σ a c) {x : Operand} {d : DV} (h : evalD σ x = some d) : RepD c.K d (a.eval x) := by
  unfold evalD at h
  simp only [Option.bind_eq_some_iff] at h
  obtain ⟨v, h1, h2⟩ := h
  exact asD_sound (evalO_sound he h1) h2
theorem argsP_sound {σ : St} {a : Act} {c : Cfg} (he : EnvOk σ a c) : ∀ {xs : List Operand} {vs : List PV}, argsP σ xs = some vs →
    vs.length = xs.length ∧ ∀ (j : Nat) (v : PV), vs[j]? = some v → ∃ x, xs[j]? = some x ∧ RepP c v (a.eval x)
  | [], vs, h => by simp [argsP] at h; subst h; simp
  | x :: r, vs, h => by
    simp only [argsP] at h
    split at h <;> simp at h
    rename_i v l h1 h2
    subst h
    obtain ⟨h3, h4⟩ := argsP_sound he h2
    refine ⟨by simp [h3], fun j d' hj => ?_⟩
    cases j with
    | zero => simp at hj; subst hj; exact ⟨x, rfl, evalO_sound he h1⟩
    | succ j => simpa using h4 j d' (by simpa using hj)
theorem wordO_sound {σ : St} {a : Act} {c : Cfg} (he : EnvOk σ a c) {x : Operand} {d n : Int} (h : wordO σ (some x) d = some n) : ∃ k, a.eval x = .int k n := by
  unfold wordO at h
  split at h
  · rename_i heq; cases heq
  · rename_i y _ heq
    obtain rfl := Option.some.inj heq
    split at h <;> simp at h
    subst h
    rename_i k n hd
    have := evalD_sound he hd
    generalize a.eval x = u at this ⊢
    cases this
    exact ⟨k, rfl⟩
end
end Go.Proofs.YtbeafnkcimfeeaaGreatDoor.AM
/- The abstract machine (6): each operation does in the world what it does in the abstract state. -/
namespace Go.Proofs.YtbeafnkcimfeeaaGreatDoor.AM
set_option linter.unusedVariables false
set_option linter.unusedSimpArgs false
open Go.RowKit
set_option linter.unusedVariables false
set_option linter.unusedSimpArgs false
set_option linter.unusedSectionVars false
section
variable {P : Program} {T : Tab} {o : Oper} {σ : St} {a : Act} {w : World} {c : Cfg} {e : Eff} {K : Act → World → Prop} {Q : Exit → Act → World → Prop}
theorem wp_of_run {x : Value} {w' : World} (h : (execOp a.eval o).run P w = .ok (.value x) w') (hk : K (a.put o.dst x) w') : o.wp P a w K Q := by
  unfold Oper.wp; rw [h]; exact hk
theorem wp_of_skip {w' : World} (h : (execOp a.eval o).run P w = .ok .skip w') (hk : K (a.put o.dst undef) w') : o.wp P a w K Q := by
  unfold Oper.wp; rw [h]; exact hk
def Next (σ : St) (o : Oper) (a : Act) (w : World) (c : Cfg) (K : Act → World → Prop) (e : Eff) : Prop :=
  ∀ v w' c', RepP c' e.val v → StepF σ o.dst e w w' c c' → K (a.put o.dst v) w'
theorem wp_value {v : PV} {x : Value} {rd : List Key} (hs : HS σ w c) (h : (execOp a.eval o).run P w = .ok (.value x) w) (hx : RepP c v x) (hn : Next σ o a w c K { val := v, rd := rd }) : o.wp P a w K Q :=
  wp_of_run h (hn x w c hx (stepF_same hs o.dst v rd))
theorem run_v (s : Sem Value) (x : Value) (w w' : World) (h : s.run P w = .ok x w') : (do pure (Next.value (← s)) : Sem Go.Next).run P w = .ok (.value x) w' := by
  rw [Sem.run_bind, h]; rfl
variable (hs : HS σ w c) (he : EnvOk σ a c)
include hs he
theorem sound_move {x : Operand} {v : PV} (ho : o.op = .move x) (hv : evalO σ x = some v) (hn : Next σ o a w c K { val := v }) : o.wp P a w K Q :=
  wp_value (rd := []) hs (by simp [execOp, ho]) (evalO_sound he hv) hn
theorem sound_assign {x : Operand} {v : PV} (ho : o.op = .assign x) (hv : evalO σ x = some v) (hn : Next σ o a w c K { val := v }) : o.wp P a w K Q :=
  wp_value (rd := []) hs (by simp [execOp, ho]) (evalO_sound he hv) hn
theorem sound_assign_nil {x : Operand} {d : Nat} {e : TypeId} {sz : Nat} (ho : o.op = .assign x) (hx : isNilRow x = true) (hd : o.dst = some d) (hf : c.O (d, 0, σ.ep) = none) (hfM : c.M (d, 0, σ.ep) = none)
    (hn : Next σ o a w c K { val := .acc (d, 0, σ.ep) sz [], nw := [0] }) : o.wp P a w K Q := by
  have hx' : a.eval x = .slice none 0 0 := by
    unfold isNilRow at hx
    split at hx <;> first | rfl | (cases hx)
  have hst := stepF_nil hs d (.acc (d, 0, σ.ep) sz []) e sz hf hfM
  rw [← hd] at hst
  exact wp_of_run (x := .slice none 0 0) (w' := w) (by simp [execOp, ho, hx']) (hn _ _ { c with O := upd c.O (d, 0, σ.ep) (some (.slice none 0 0, e, sz)) } (.acc _ _ _ _ e (upd_same _ _ _) (.nils _)) hst)
theorem sound_assign_nilM {x : Operand} {d : Nat} {e : TypeId} {sz : Nat} (ho : o.op = .assign x) (hx : isNilRow x = true) (hd : o.dst = some d) (hf : c.O (d, 0, σ.ep) = none) (hfM : c.M (d, 0, σ.ep) = none)
    (hn : Next σ o a w c K { val := .row (d, 0, σ.ep) sz, al := [(0, [])] }) : o.wp P a w K Q := by
  have hx' : a.eval x = .slice none 0 0 := by
    unfold isNilRow at hx
    split at hx <;> first | rfl | (cases hx)
  have hst := stepF_rowM (w' := w) hs d (.row (d, 0, σ.ep) sz) [] [] none e sz 0 (.slice none 0 0) [] [] hfM hf (World.ownsRow_nil w 0 e sz) (by simp) (fun j v hj => by simp at hj) ⟨rfl, rfl, rfl, Nat.le_refl _, fun _ _ _ => rfl⟩ (by simp) (fun g hg => by simp [Value.ownBlock] at hg)
  rw [← hd] at hst
  exact wp_of_run (x := .slice none 0 0) (w' := w) (by simp [execOp, ho, hx']) (hn _ _ _ (.row _ _ _ e (upd_same _ _ _) rfl) hst)
theorem sound_pick {x y z : Operand} {t : Bool} {v : PV} (ho : o.op = .pick x y z) (hx : evalO σ x = some (.dat (.bool t))) (hv : (if t = true then evalO σ y else evalO σ z) = some v)
    (hn : Next σ o a w c K { val := v }) : o.wp P a w K Q := by
  have h1 := evalO_sound he hx
  have hb : a.eval x = .bool t := by
    generalize a.eval x = u at h1 ⊢
    cases h1 with | dat _ _ h => cases h; rfl
  refine wp_value (rd := []) (x := if t = true then a.eval y else a.eval z) hs (by simp [execOp, ho, hb, asBool]) ?_ hn
  split <;> rename_i ht <;> simp only [ht, if_true, if_false, Bool.false_eq_true] at hv <;> exact evalO_sound he hv
theorem sound_alloc (hT : ∀ t i, T t = some i → i.Good P t) {t : TypeId} {i : TyI} {d : Nat} (ho : o.op = .alloc t) (hd : o.dst = some d) (hi : T t = some i) (hf : c.M (d, 0, σ.ep) = none) (hfO : c.O (d, 0, σ.ep) = none)
    (hn : Next σ o a w c K { val := .ptr (d, 0, σ.ep) 0, al := [(0, i.zero.map .dat)] }) : o.wp P a w K Q := by
  obtain ⟨inf, z, h1, h2, h3, h4, h5, h6, h7⟩ := (hT t i hi).info
  have hrun : (execOp a.eval o).run P w = .ok (.value (.pointer (some ⟨w.heap.size, 0, none⟩))) (w.alloc (.cells z.cells t)) := by
    simp [execOp, ho, Instr.alloc, zeroValue, typeInfo, h1, h3, newVar, newRow]
  refine wp_of_run hrun (hn _ _ { c with M := upd c.M (d, 0, σ.ep) (some w.heap.size) } (.ptr _ _ _ (upd_same _ _ _)) ?_)
  rw [hd]
  refine stepF_box hs d _ _ z.cells t hf hfO (by simp [h4, h5]) (fun j v hj => ?_)
  simp only [List.getElem?_map, Option.map_eq_some_iff] at hj
  obtain ⟨dv, hj, rfl⟩ := hj
  have hlt : j < z.cells.size := by rw [h4, ← h5]; exact (List.getElem?_eq_some_iff.1 hj).1
  exact ⟨_, some_of_lt undef hlt, (h6 j dv hj).1, .dat _ _ ((h6 j dv hj).2 _)⟩
theorem sound_box {t : TypeId} {i : TyI} {x : Operand} {d : Nat} {cs : List PV} (ho : o.op = .box t x) (hd : o.dst = some d) (hx : (evalO σ x).bind (cellsT i) = some cs) (hf : c.M (d, 0, σ.ep) = none) (hfO : c.O (d, 0, σ.ep) = none)
    (hn : Next σ o a w c K { val := .ptr (d, 0, σ.ep) 0, al := [(0, cs)] }) : o.wp P a w K Q := by
  simp only [Option.bind_eq_some_iff] at hx
  obtain ⟨v, hv, hc⟩ := hx
  obtain ⟨h1, h2, h3⟩ := cellsT_sound (evalO_sound he hv) hc
  have hrun : (execOp a.eval o).run P w = .ok (.value (.pointer (some ⟨w.heap.size, 0, none⟩))) (w.alloc (.cells (a.eval x).cells t)) := by
    simp [execOp, ho, Instr.box, newVar, newRow]
  refine wp_of_run hrun (hn _ _ { c with M := upd c.M (d, 0, σ.ep) (some w.heap.size) } (.ptr _ _ _ (upd_same _ _ _)) ?_)
  rw [hd]
  exact stepF_box hs d _ _ _ t hf hfO (by rw [h1, h2]) h3
theorem sound_load_box {m : Bool} (hT : ∀ t i, T t = some i → i.Good P t) {t : TypeId} {i : TyI} {x : Operand} {k : Key} {off : Nat} {cs : List PV} {v : PV} (ho : o.op = .load t x) (hi : T t = some i) (hx : evalO σ x = some (.ptr k off))
    (hk : σ.mem k = some cs) (hv : (i.isAgg = true ∧ off + i.size ≤ cs.length ∧ v = collect m ((cs.drop off).take i.size)) ∨ (i.isAgg = false ∧ cs[off]? = some v))
    (hn : Next σ o a w c K { val := v, rd := [k] }) : o.wp P a w K Q := by
  have hp := evalO_sound he hx
  obtain ⟨b, h1, hb⟩ : ∃ b, c.M k = some b ∧ a.eval x = .pointer (some ⟨b, off, none⟩) := by
    generalize a.eval x = u at hp ⊢
    cases hp with
    | ptr _ _ b' hm => exact ⟨b', hm, rfl⟩
  obtain ⟨ty, arr, h2, h3, h4⟩ := (hs.box k cs hk).block h1
  have hg := hT t i hi
  rcases hv with ⟨ha, hl, rfl⟩ | ⟨ha, hv⟩
  · have hrun : (loadVar t ⟨b, off, none⟩).run P w = .ok (.agg ((arr.toList.drop off).take i.size).toArray) w := by
      refine run_loadVar_aggL w t _ _ (by rw [hg.runAgg, ha]) ?_ (fun j v hj => ?_)
      · rw [hg.runSize]; congr 1; simp; omega
      · rw [addr_add, cell_of_row w b (off + j) arr ty (0, 0) h2]
        simp only [List.getElem?_take, List.getElem?_drop] at hj
        split at hj
        · simpa using hj
        · cases hj
    refine wp_value hs (x := .agg ((arr.toList.drop off).take i.size).toArray) ?_ ?_ hn
    · simp [execOp, ho, hb, Instr.loadAt, Instr.sureAddr, hrun]
    · refine collect_sound (by simp; omega) (fun j p hp => ?_)
      simp only [List.getElem?_take, List.getElem?_drop] at hp
      split at hp
      · rename_i hj
        obtain ⟨y, h5, h6, h7⟩ := h4 _ _ hp
        have : (((arr.toList.drop off).take i.size).toArray).getD j undef = y := by
          apply getD_of_some
          simp [List.getElem?_take, List.getElem?_drop, hj, h5]
        rw [this]; exact ⟨h6, h7⟩
      · cases hp
  · obtain ⟨y, h5, h6, h7⟩ := h4 _ _ hv
    have hrun : (loadVar t ⟨b, off, none⟩).run P w = .ok y w :=
      run_loadVar_oneL w t _ y (by rw [hg.runAgg, ha]) (by rw [cell_of_row w b off arr ty (0, 0) h2]; exact h5)
    exact wp_value hs (x := y) (by simp [execOp, ho, hb, Instr.loadAt, Instr.sureAddr, hrun]) h7 hn
theorem sound_load_ip (hT : ∀ t i, T t = some i → i.Good P t) {t : TypeId} {i : TyI} {x : Operand} {off : Nat} {cs : List DV} {v : DV} (ho : o.op = .load t x) (hi : T t = some i) (hx : evalO σ x = some (.dat (.ip cs off)))
    (hv : (i.isAgg = true ∧ off + i.size ≤ cs.length ∧ v = .agg ((cs.drop off).take i.size)) ∨ (i.isAgg = false ∧ cs[off]? = some v))
    (hn : Next σ o a w c K { val := .dat v }) : o.wp P a w K Q := by
  have hp := evalO_sound he hx
  obtain ⟨b, o', f, hb, hk, hone, hr⟩ : ∃ (b o' : Nat) (f : Nat → Value), a.eval x = .pointer (some ⟨b, o' + off, none⟩) ∧ (∀ (j : Nat) (d : DV), cs[j]? = some d → c.K b (o' + j) = some (f j)) ∧
      (∀ (j : Nat) (d : DV), cs[j]? = some d → (f j).oneCell' = true) ∧ ∀ (j : Nat) (d : DV), cs[j]? = some d → RepD c.K d (f j) := by
    generalize a.eval x = u at hp ⊢
    cases hp with
    | dat _ _ h => cases h with | ip _ _ b o' f hk hone hr => exact ⟨b, o', f, rfl, hk, hone, hr⟩
  have hg := hT t i hi
  rcases hv with ⟨ha, hl, rfl⟩ | ⟨ha, hv⟩
  · have hrun : (loadVar t ⟨b, o' + off, none⟩).run P w = .ok (.agg ((List.range i.size).map fun j => f (off + j)).toArray) w := by
      refine run_loadVar_aggL w t _ _ (by rw [hg.runAgg, ha]) (by rw [hg.runSize]; simp) (fun j v hj => ?_)
      simp only [List.getElem?_map, Option.map_eq_some_iff] at hj
      obtain ⟨q, hq, rfl⟩ := hj
      obtain ⟨h1, h2⟩ := List.getElem?_eq_some_iff.1 hq
      simp at h1 h2
      subst h2
      rw [addr_add]
      have hlt : off + j < cs.length := by omega
      have := hk (off + j) cs[off + j] (by simp [hlt])
      rw [← Nat.add_assoc] at this
      exact hs.kin _ _ _ this
    refine wp_value (rd := []) hs (x := .agg ((List.range i.size).map fun j => f (off + j)).toArray) ?_ ?_ hn
    · simp [execOp, ho, hb, Instr.loadAt, Instr.sureAddr, hrun]
    · have hget : ∀ (j : Nat) (d : DV), ((cs.drop off).take i.size)[j]? = some d → cs[off + j]? = some d ∧ (((List.range i.size).map fun j => f (off + j)).toArray).getD j undef = f (off + j) := by
        intro j d hj
        simp only [List.getElem?_take, List.getElem?_drop] at hj
        split at hj
        · rename_i hlt
          exact ⟨hj, getD_of_some (by simp [hlt])⟩
        · cases hj
      refine .dat _ _ (.agg _ _ (by simp; omega) (fun j d hj => ?_) fun j d hj => ?_)
      · obtain ⟨h1, h2⟩ := hget j d hj
        rw [h2]; exact hone _ d h1
      · obtain ⟨h1, h2⟩ := hget j d hj
        rw [h2]; exact hr _ d h1
  · have hrun : (loadVar t ⟨b, o' + off, none⟩).run P w = .ok (f off) w :=
      run_loadVar_oneL w t _ _ (by rw [hg.runAgg, ha]) (hs.kin _ _ _ (hk off v hv))
    exact wp_value (rd := []) hs (x := f off) (by simp [execOp, ho, hb, Instr.loadAt, Instr.sureAddr, hrun]) (.dat _ _ (hr off v hv)) hn
theorem sound_store (hT : ∀ t i, T t = some i → i.Good P t) {t : TypeId} {i : TyI} {x y : Operand} {k : Key} {off : Nat} {cs new : List PV} (ho : o.op = .store t x y) (hd : o.dst = none) (hi : T t = some i) (hx : evalO σ x = some (.ptr k off))
    (hk : σ.mem k = some cs) (hy : (evalO σ y).bind (cellsT i) = some new) (hl : off + new.length ≤ cs.length)
    (hn : Next σ o a w c K { val := unitP, wr := [(k, setR cs off new)], rd := [k] }) : o.wp P a w K Q := by
  have hp := evalO_sound he hx
  obtain ⟨b, h1, hb⟩ : ∃ b, c.M k = some b ∧ a.eval x = .pointer (some ⟨b, off, none⟩) := by
    generalize a.eval x = u at hp ⊢
    cases hp with
    | ptr _ _ b' hm => exact ⟨b', hm, rfl⟩
  obtain ⟨ty, arr, h2, h3, h4⟩ := (hs.box k cs hk).block h1
  simp only [Option.bind_eq_some_iff] at hy
  obtain ⟨v, hv, hc⟩ := hy
  obtain ⟨h5, h6, h7⟩ := cellsT_sound (evalO_sound he hv) hc
  have hg := hT t i hi
  have hvl : (a.eval y).cells.toList.length = new.length := by simp [h5, h6]
  have hst := run_storeCells_at P b off ty (a.eval y).cells.toList 0 arr w h2 (by rw [hvl]; omega) (fun u hu => by
    obtain ⟨j, hj⟩ := List.mem_iff_getElem?.1 hu
    have hlt : j < new.length := by rw [← hvl]; exact (List.getElem?_eq_some_iff.1 hj).1
    obtain ⟨y', h8, h9, _⟩ := h7 j new[j] (by simp [hlt])
    simp only [Array.getElem?_toList] at hj
    rw [h8] at hj; cases hj; exact h9)
  have hrun : (execOp a.eval o).run P w = .ok .skip (w.setRow b (arr.toList.take off ++ (a.eval y).cells.toList ++ arr.toList.drop (off + (a.eval y).cells.toList.length)).toArray) := by
    simp only [Nat.add_zero] at hst
    simp [execOp, ho, hb, Instr.storeAt, Instr.sureAddr, storeVar, hg.runSize, h5, hst]
  refine wp_of_skip hrun (hn _ _ c (.dat _ _ (.tup [] #[] rfl (fun j d hj => by simp at hj))) ?_)
  refine stepF_store hs o.dst _ k b cs _ arr _ ty [k] h1 hk h2 ?_ ?_ (fun j p hp => ?_)
  · simp [h5]; omega
  · simp [setR]; omega
  · rw [getElem?_setR _ _ _ _ hl] at hp
    have hget : (arr.toList.take off ++ (a.eval y).cells.toList ++ arr.toList.drop (off + (a.eval y).cells.toList.length)).toArray[j]? =
        if off ≤ j ∧ j < off + new.length then (a.eval y).cells[j - off]? else arr[j]? := by
      rw [List.getElem?_toArray, getElem?_setRow _ _ _ _ (by rw [hvl]; simp; omega), hvl]
      simp
    show ∃ x, (arr.toList.take off ++ (a.eval y).cells.toList ++ arr.toList.drop (off + (a.eval y).cells.toList.length)).toArray[j]? = some x ∧ _
    rw [hget]
    split at hp
    · rename_i hc
      rw [if_pos hc]
      exact h7 _ _ hp
    · rename_i hc
      rw [if_neg hc]
      exact h4 _ _ hp
end
end Go.Proofs.YtbeafnkcimfeeaaGreatDoor.AM
/- The abstract machine (7): operations that only compute. -/
namespace Go.Proofs.YtbeafnkcimfeeaaGreatDoor.AM
set_option linter.unusedVariables false
set_option linter.unusedSimpArgs false
open Go.RowKit
set_option linter.unusedVariables false
set_option linter.unusedSimpArgs false
set_option linter.unusedSectionVars false
section
variable {P : Program} {T : Tab} {o : Oper} {σ : St} {a : Act} {w : World} {c : Cfg} {e : Eff} {K : Act → World → Prop} {Q : Exit → Act → World → Prop}
theorem tyOf_some {t : TypeId} {ty : Ty} (h : tyOf T t = ty) (hn : ty ≠ .other) : ∃ i, T t = some i ∧ i.ty = ty := by
  unfold tyOf at h
  cases ht : T t with
  | none => rw [ht] at h; exact absurd h.symm hn
  | some i => rw [ht] at h; exact ⟨i, rfl, h⟩
theorem und_slice (hT : ∀ t i, T t = some i → i.Good P t) {t e : TypeId} {sz bytes : Nat} (h : tyOf T t = .slice e sz bytes) :
    P.underlying t = some (.slice e) ∧ 0 < sz ∧ ∃ ie z, P.info? e = some ie ∧ ie.size = sz ∧ ie.bytes = bytes ∧ ie.zero = some z ∧ z.cells.size = sz := by
  obtain ⟨i, h1, h2⟩ := tyOf_some h (by simp)
  obtain ⟨d, h3, h4⟩ := (hT t i h1).und
  unfold UndOk at h4
  rw [h2] at h4
  obtain ⟨rfl, _, h5, h6⟩ := h4
  exact ⟨h3, h5, h6⟩
theorem und_str (hT : ∀ t i, T t = some i → i.Good P t) {t : TypeId} (h : tyOf T t = .str) : P.underlying t = some .string := by
  obtain ⟨i, h1, h2⟩ := tyOf_some h (by simp)
  obtain ⟨d, h3, h4⟩ := (hT t i h1).und
  unfold UndOk at h4
  rw [h2] at h4
  rw [h3, h4.1]
theorem und_bool (hT : ∀ t i, T t = some i → i.Good P t) {t : TypeId} (h : tyOf T t = .bool) : P.underlying t = some .bool := by
  obtain ⟨i, h1, h2⟩ := tyOf_some h (by simp)
  obtain ⟨d, h3, h4⟩ := (hT t i h1).und
  unfold UndOk at h4
  rw [h2] at h4
  rw [h3, h4.1]
theorem und_iface (hT : ∀ t i, T t = some i → i.Good P t) {t : TypeId} (h : tyOf T t = .iface) : ∃ ms, P.underlying t = some (.interface ms) := by
  obtain ⟨i, h1, h2⟩ := tyOf_some h (by simp)
  obtain ⟨d, h3, h4⟩ := (hT t i h1).und
  unfold UndOk at h4
  rw [h2] at h4
  obtain ⟨⟨ms, rfl⟩, _⟩ := h4
  exact ⟨ms, h3⟩
theorem und_ptr (hT : ∀ t i, T t = some i → i.Good P t) {t : TypeId} (h : tyOf T t = .ptr) : ∃ e, P.underlying t = some (.pointer e) := by
  obtain ⟨i, h1, h2⟩ := tyOf_some h (by simp)
  obtain ⟨d, h3, h4⟩ := (hT t i h1).und
  unfold UndOk at h4
  rw [h2] at h4
  obtain ⟨⟨e, rfl⟩, _⟩ := h4
  exact ⟨e, h3⟩
theorem und_fn (hT : ∀ t i, T t = some i → i.Good P t) {t : TypeId} (h : tyOf T t = .fn) : ∃ a b v, P.underlying t = some (.func a b v) := by
  obtain ⟨i, h1, h2⟩ := tyOf_some h (by simp)
  obtain ⟨d, h3, h4⟩ := (hT t i h1).und
  unfold UndOk at h4
  rw [h2] at h4
  obtain ⟨⟨a, b, v, rfl⟩, _⟩ := h4
  exact ⟨a, b, v, h3⟩
theorem und_int (hT : ∀ t i, T t = some i → i.Good P t) {t : TypeId} {k : IntKind} (h : tyOf T t = .int k) : P.underlying t = some (.int k) := by
  obtain ⟨i, h1, h2⟩ := tyOf_some h (by simp)
  obtain ⟨d, h3, h4⟩ := (hT t i h1).und
  unfold UndOk at h4
  rw [h2] at h4
  rw [h3, h4.1]
theorem und_struct (hT : ∀ t i, T t = some i → i.Good P t) {t : TypeId} {fs : List (Nat × Nat × Bool)} (h : tyOf T t = .struct fs) :
    ∃ fields, P.underlying t = some (.struct fields) ∧ fs.length = fields.size ∧ ∀ (k : Nat) (off sz : Nat) (ag : Bool), fs[k]? = some (off, sz, ag) →
      ∃ f, fields[k]? = some f ∧ f.offset = off ∧ 0 < sz ∧ (∃ inf, P.info? f.type = some inf ∧ inf.size = sz) ∧ ∃ df, P.underlying f.type = some df ∧ isAggDesc df = ag := by
  obtain ⟨i, h1, h2⟩ := tyOf_some h (by simp)
  obtain ⟨d, h3, h4⟩ := (hT t i h1).und
  unfold UndOk at h4
  rw [h2] at h4
  obtain ⟨fields, rfl, h5, h6⟩ := h4
  exact ⟨fields, h3, h5, h6⟩
/-! ### '==' and other operators -/
theorem RepD.int_inv {K : Known} {k : IntKind} {n : Int} {x : Value} (h : RepD K (.int k n) x) : x = .int k n := by cases h; rfl
theorem RepD.bool_inv {K : Known} {b : Bool} {x : Value} (h : RepD K (.bool b) x) : x = .bool b := by cases h; rfl
theorem RepD.str_inv {K : Known} {l : List UInt8} {x : Value} (h : RepD K (.str l) x) : x = .string ⟨l.toArray⟩ ∧ l.length ≤ maxLen := by cases h; exact ⟨rfl, by assumption⟩
theorem RepD.nilI_inv {K : Known} {x : Value} (h : RepD K .nilI x) : x = .nilIface := by cases h; rfl
theorem RepD.ifc_inv {K : Known} {t : TypeId} {d : DV} {x : Value} (h : RepD K (.ifc t d) x) : ∃ v, x = .iface t v ∧ RepD K d v := by cases h; exact ⟨_, rfl, by assumption⟩
theorem RepD.agg_inv {K : Known} {cs : List DV} {x : Value} (h : RepD K (.agg cs) x) : ∃ vs, x = .agg vs := by cases h; exact ⟨_, rfl⟩
theorem beqL (a b : List UInt8) : ((⟨a.toArray⟩ : ByteArray).toList == (⟨b.toArray⟩ : ByteArray).toList) = decide (a = b) := by
  rw [ByteArray.toList_eq, ByteArray.toList_eq]
  rw [Bool.eq_iff_iff]
  simp
theorem run_intBin {op : BinOp} {t : TypeId} {x y : Operand} {k : IntKind} {p q : Int} {d : DV} (h : intBin op k p q = some d) (w : World) :
    ∃ v, RepD c.K d v ∧ (do eqGuard op t x y (.int k p) (.int k q); binOp op t (.int k p) (.int k q) : Sem Value).run P w = .ok v w := by
  cases op <;> simp [intBin] at h
  case add => subst h; exact ⟨_, .int _ _, by simp [eqGuard, binOp, Op.intArith]⟩
  case sub => subst h; exact ⟨_, .int _ _, by simp [eqGuard, binOp, Op.intArith]⟩
  case mul => subst h; exact ⟨_, .int _ _, by simp [eqGuard, binOp, Op.intArith]⟩
  case quo => obtain ⟨h0, rfl⟩ := h; exact ⟨_, .int _ _, by simp [eqGuard, binOp, Op.intDiv, h0]⟩
  case rem => obtain ⟨h0, rfl⟩ := h; exact ⟨_, .int _ _, by simp [eqGuard, binOp, Op.intDiv, h0]⟩
  case eql => subst h; exact ⟨_, .bool _, by simp [eqGuard, binOp, Op.intCmp]; rw [Bool.eq_iff_iff]; simp⟩
  case neq => subst h; exact ⟨_, .bool _, by simp [eqGuard, binOp, Op.intCmp]; rw [Bool.eq_iff_iff]; simp⟩
  case lss => subst h; exact ⟨_, .bool _, by simp [eqGuard, binOp, Op.intCmp]⟩
  case leq => subst h; exact ⟨_, .bool _, by simp [eqGuard, binOp, Op.intCmp]⟩
  case gtr => subst h; exact ⟨_, .bool _, by simp [eqGuard, binOp, Op.intCmp]⟩
  case geq => subst h; exact ⟨_, .bool _, by simp [eqGuard, binOp, Op.intCmp]⟩
theorem run_strBin {op : BinOp} {t : TypeId} {x y : Operand} {p q : List UInt8} {d : DV} (h : strBin op p q = some d) (w : World) :
    ∃ v, RepD c.K d v ∧ (do eqGuard op t x y (.string ⟨p.toArray⟩) (.string ⟨q.toArray⟩); binOp op t (.string ⟨p.toArray⟩) (.string ⟨q.toArray⟩) : Sem Value).run P w = .ok v w := by
  have hl : Op.bytesLess (⟨p.toArray⟩ : ByteArray).toList (⟨q.toArray⟩ : ByteArray).toList = strLt p q := by rw [ByteArray.toList_eq, ByteArray.toList_eq]; rfl
  have hq := beqL p q
  have h1 : eqGuard op t x y (.string ⟨p.toArray⟩) (.string ⟨q.toArray⟩) = pure () := by cases op <;> rfl
  have h2 : binOp op t (.string ⟨p.toArray⟩) (.string ⟨q.toArray⟩) = Op.stringOp op ⟨p.toArray⟩ ⟨q.toArray⟩ := by cases op <;> rfl
  rw [h1, h2, Sem.run_bind, Sem.run_pure, Result.andThen_ok]
  unfold Op.stringOp
  rw [hl, hq]
  cases op <;> simp only [strBin, Option.some.injEq, reduceCtorEq] at h <;> subst h <;> exact ⟨_, .bool _, rfl⟩
theorem run_equal_nils {t : TypeId} {ms : Array (String × TypeId)} (w : World) (ht : P.underlying t = some (.interface ms)) : (Op.equal t .nilIface .nilIface).run P w = .ok true w := by
  have h : ∀ d, (Op.equalIn (d + 1) t .nilIface .nilIface).run P w = .ok true w := fun d => by simp [Op.equalIn, run_underlying ht]
  unfold Op.equal Op.maxDepth
  exact h 9999
theorem run_equal_ifc_nil {t u : TypeId} {v : Value} {ms : Array (String × TypeId)} (w : World) (ht : P.underlying t = some (.interface ms)) : (Op.equal t (.iface u v) .nilIface).run P w = .ok false w := by
  have h : ∀ d, (Op.equalIn (d + 1) t (.iface u v) .nilIface).run P w = .ok false w := fun d => by simp [Op.equalIn, run_underlying ht]
  unfold Op.equal Op.maxDepth
  exact h 9999
theorem run_equal_ptr {t e : TypeId} {a : Option Addr} (w : World) (ht : P.underlying t = some (.pointer e)) : (Op.equal t (.pointer a) (.pointer none)).run P w = .ok a.isNone w := by
  have h : ∀ d, (Op.equalIn (d + 1) t (.pointer a) (.pointer none)).run P w = .ok a.isNone w := fun d => by cases a <;> simp [Op.equalIn, run_underlying ht]
  unfold Op.equal Op.maxDepth
  exact h 9999
theorem run_equal_fn {t : TypeId} {a b : Array TypeId} {v : Bool} {f : Fn} {x y : Array Value} (w : World) (ht : P.underlying t = some (.func a b v)) : (Op.equal t (.func f x y) .nilFunc).run P w = .ok false w := by
  have h : ∀ d, (Op.equalIn (d + 1) t (.func f x y) .nilFunc).run P w = .ok false w := fun d => by simp [Op.equalIn, run_underlying ht]
  unfold Op.equal Op.maxDepth
  exact h 9999
theorem run_equal_fnn {t : TypeId} {a b : Array TypeId} {v : Bool} (w : World) (ht : P.underlying t = some (.func a b v)) : (Op.equal t .nilFunc .nilFunc).run P w = .ok true w := by
  have h : ∀ d, (Op.equalIn (d + 1) t .nilFunc .nilFunc).run P w = .ok true w := fun d => by simp [Op.equalIn, run_underlying ht]
  unfold Op.equal Op.maxDepth
  exact h 9999
theorem run_binD (hT : ∀ t i, T t = some i → i.Good P t) {op : BinOp} {t : TypeId} {x y : Operand} {p q d : DV} {u v : Value} (h : binD T op t y p q = some d) (hp : RepD c.K p u) (hq : RepD c.K q v) (w : World) :
    ∃ r, RepD c.K d r ∧ (do eqGuard op t x y u v; binOp op t u v : Sem Value).run P w = .ok r w := by
  unfold binD at h
  split at h
  · split at h
    · rename_i k p' k' q' hk
      subst hk
      obtain rfl := hp.int_inv
      obtain rfl := hq.int_inv
      exact run_intBin h w
    · simp at h
  · obtain ⟨rfl, _⟩ := hp.str_inv
    obtain ⟨rfl, _⟩ := hq.str_inv
    exact run_strBin h w
  · obtain rfl := hp.bool_inv
    obtain rfl := hq.bool_inv
    rename_i p' q'
    have hr : ∀ (ht : P.underlying t = some .bool), (Op.equal t (.bool p') (.bool q')).run P w = .ok (p' == q') w := fun ht => by
      unfold Op.equal Op.maxDepth
      exact run_equalIn_bool' w 9999 t p' q' ht
    split at h <;> simp at h <;> subst h <;> rename_i hty
    · have ht := und_bool hT hty
      refine ⟨_, .bool _, ?_⟩
      simp [eqGuard, binOp, hr ht]
      rw [Bool.eq_iff_iff]; simp
    · have ht := und_bool hT hty
      refine ⟨_, .bool _, ?_⟩
      simp [eqGuard, binOp, hr ht]
      rw [Bool.eq_iff_iff]; simp
  · split at h
    · rename_i xs ys i hi
      split at h
      · simp at h
      · rename_i hc
        obtain ⟨hg, he⟩ := (hT t i hi).eq (by simpa using hc)
        obtain ⟨vx, rfl⟩ := hp.agg_inv
        obtain ⟨vy, rfl⟩ := hq.agg_inv
        split at h <;> first | (simp at h; done) | simp only [Option.map_eq_some_iff] at h
        · obtain ⟨b, hb, rfl⟩ := h
          refine ⟨_, .bool _, ?_⟩
          rw [Sem.run_bind, run_eqGuard_agg w _ _ _ _ _ _ hg, Result.andThen_ok, run_eql_struct, he c.K w _ _ vx vy b hb hp hq]
          rfl
        · obtain ⟨b, hb, rfl⟩ := h
          refine ⟨_, .bool _, ?_⟩
          rw [Sem.run_bind, run_eqGuard_agg w _ _ _ _ _ _ hg, Result.andThen_ok, run_neq_struct, he c.K w _ _ vx vy b hb hp hq]
          rfl
    · simp at h
  · cases hp
    cases hq
    split at h <;> first | (cases h; done) | (split at h <;> first | (cases h; done) | (obtain rfl := Option.some.inj h; rename_i hty))
    · obtain ⟨e, ht⟩ := und_ptr hT hty
      exact ⟨_, .bool _, by simp [eqGuard, binOp, run_equal_ptr w ht]⟩
    · obtain ⟨e, ht⟩ := und_ptr hT hty
      exact ⟨_, .bool _, by simp [eqGuard, binOp, run_equal_ptr w ht]⟩
    · obtain ⟨a, b, v, ht⟩ := und_fn hT hty
      exact ⟨_, .bool _, by simp [eqGuard, binOp, run_equal_fnn w ht]⟩
    · obtain ⟨a, b, v, ht⟩ := und_fn hT hty
      exact ⟨_, .bool _, by simp [eqGuard, binOp, run_equal_fnn w ht]⟩
  · cases hq
    cases hp
    split at h <;> first | (cases h; done) | (split at h <;> first | (cases h; done) | (obtain rfl := Option.some.inj h; rename_i hty))
    · obtain ⟨e, ht⟩ := und_ptr hT hty
      exact ⟨_, .bool _, by simp [eqGuard, binOp, run_equal_ptr w ht]⟩
    · obtain ⟨e, ht⟩ := und_ptr hT hty
      exact ⟨_, .bool _, by simp [eqGuard, binOp, run_equal_ptr w ht]⟩
  · obtain rfl := hp.nilI_inv
    obtain rfl := hq.nilI_inv
    split at h <;> simp at h <;> subst h <;> rename_i hty
    · obtain ⟨ms, ht⟩ := und_iface hT hty
      refine ⟨_, .bool _, ?_⟩
      simp [eqGuard, binOp, run_equal_nils w ht, run_equal_ifc_nil w ht]
    · obtain ⟨ms, ht⟩ := und_iface hT hty
      refine ⟨_, .bool _, ?_⟩
      simp [eqGuard, binOp, run_equal_nils w ht, run_equal_ifc_nil w ht]
  · obtain ⟨z, rfl, _⟩ := hp.ifc_inv
    obtain rfl := hq.nilI_inv
    split at h <;> simp at h <;> subst h <;> rename_i hty
    · obtain ⟨ms, ht⟩ := und_iface hT hty
      refine ⟨_, .bool _, ?_⟩
      simp [eqGuard, binOp, run_equal_nils w ht, run_equal_ifc_nil w ht]
    · obtain ⟨ms, ht⟩ := und_iface hT hty
      refine ⟨_, .bool _, ?_⟩
      simp [eqGuard, binOp, run_equal_nils w ht, run_equal_ifc_nil w ht]
  · simp at h
variable (hs : HS σ w c) (he : EnvOk σ a c)
include hs he
theorem sound_binOp (hT : ∀ t i, T t = some i → i.Good P t) {op : BinOp} {t t' : TypeId} {x y : Operand} {p q d : DV} (ho : o.op = .binOp op t x y t') (hx : evalD σ x = some p) (hy : evalD σ y = some q) (hd : binD T op t y p q = some d)
    (hn : Next σ o a w c K { val := .dat d }) : o.wp P a w K Q := by
  obtain ⟨r, h1, h2⟩ := run_binD (x := x) hT hd (evalD_sound he hx) (evalD_sound he hy) w
  exact wp_value (rd := []) hs (by simp only [execOp, ho]; exact run_v _ _ _ _ h2) (.dat _ _ h1) hn
theorem sound_nilP (hT : ∀ t i, T t = some i → i.Good P t) {op : BinOp} {t t' : TypeId} {x y : Operand} {p : PV} {q d : DV} (ho : o.op = .binOp op t x y t') (hx : evalO σ x = some p) (hy : evalD σ y = some q) (hd : nilP T op t p q = some d)
    (hn : Next σ o a w c K { val := .dat d }) : o.wp P a w K Q := by
  have hp := evalO_sound he hx
  have hq := evalD_sound he hy
  generalize a.eval x = u at hp
  obtain ⟨r, h1, h2⟩ : ∃ r, RepD c.K d r ∧ (do eqGuard op t x y (a.eval x) (a.eval y); binOp op t (a.eval x) (a.eval y) : Sem Value).run P w = .ok r w := by
    have hp := evalO_sound he hx
    generalize a.eval x = u at hp ⊢
    generalize a.eval y = v at hq ⊢
    unfold nilP at hd
    split at hd
    · cases hp
      cases hq
      split at hd <;> first | (cases hd; done) | (split at hd <;> first | (cases hd; done) | (obtain rfl := Option.some.inj hd; rename_i hty))
      · obtain ⟨e, ht⟩ := und_ptr hT hty
        exact ⟨_, .bool _, by simp [eqGuard, binOp, run_equal_ptr w ht]⟩
      · obtain ⟨e, ht⟩ := und_ptr hT hty
        exact ⟨_, .bool _, by simp [eqGuard, binOp, run_equal_ptr w ht]⟩
    · cases hp
      cases hq
      split at hd <;> first | (cases hd; done) | (split at hd <;> first | (cases hd; done) | (obtain rfl := Option.some.inj hd; rename_i hty))
      · obtain ⟨a, b, v, ht⟩ := und_fn hT hty
        exact ⟨_, .bool _, by simp [eqGuard, binOp, run_equal_fn w ht]⟩
      · obtain ⟨a, b, v, ht⟩ := und_fn hT hty
        exact ⟨_, .bool _, by simp [eqGuard, binOp, run_equal_fn w ht]⟩
    · cases hp
      obtain rfl := hq.nilI_inv
      split at hd <;> first | (cases hd; done) | (split at hd <;> first | (cases hd; done) | (obtain rfl := Option.some.inj hd; rename_i hty))
      · obtain ⟨ms, ht⟩ := und_iface hT hty
        exact ⟨_, .bool _, by simp [eqGuard, binOp, run_equal_ifc_nil w ht]⟩
      · obtain ⟨ms, ht⟩ := und_iface hT hty
        exact ⟨_, .bool _, by simp [eqGuard, binOp, run_equal_ifc_nil w ht]⟩
    · cases hd
  exact wp_value (rd := []) hs (by simp only [execOp, ho]; exact run_v _ _ _ _ h2) (.dat _ _ h1) hn
theorem sound_strAdd {t t' : TypeId} {x y : Operand} {p q : List UInt8} (ho : o.op = .binOp .add t x y t') (hx : evalD σ x = some (.str p)) (hy : evalD σ y = some (.str q)) (hl : p.length + q.length ≤ maxLen)
    (hn : Next σ o a w c K { val := .dat (.str (p ++ q)) }) : o.wp P a w K Q := by
  obtain ⟨hp, _⟩ := (evalD_sound he hx).str_inv
  obtain ⟨hq, _⟩ := (evalD_sound he hy).str_inv
  have hr : RepD c.K (.str (p ++ q)) (.string ⟨(p ++ q).toArray⟩) := .str _ (by simpa using hl)
  have he' : (⟨p.toArray⟩ : ByteArray) ++ ⟨q.toArray⟩ = ⟨(p ++ q).toArray⟩ := by
    apply ByteArray.ext
    simp
  have s1 : (⟨p.toArray⟩ : ByteArray).size = p.length := rfl
  have s2 : (⟨q.toArray⟩ : ByteArray).size = q.length := rfl
  refine wp_value (rd := []) hs (x := .string ⟨(p ++ q).toArray⟩) ?_ (.dat _ _ hr) hn
  have hle : ¬ (((p.length + q.length : Nat) : Int) > IntKind.i64.max) := by
    simp only [maxLen] at hl
    show ¬ (((p.length + q.length : Nat) : Int) > 9223372036854775807)
    omega
  simp only [execOp, ho, hp, hq]
  apply run_v
  have h1 : eqGuard .add t x y (.string ⟨p.toArray⟩) (.string ⟨q.toArray⟩) = pure () := rfl
  rw [h1, Sem.run_bind, Sem.run_pure, Result.andThen_ok]
  show (Op.stringOp .add _ _).run P w = _
  unfold Op.stringOp
  simp only [s1, s2, if_neg hle, he', Sem.run_pure]
theorem sound_convert (hT : ∀ t i, T t = some i → i.Good P t) {s t : TypeId} {x : Operand} {k k' : IntKind} {n : Int} {i : TyI} (ho : o.op = .convert s t x) (ht : tyOf T t = .int k) (hi : T s = some i) (hx : evalD σ x = some (.int k' n))
    (hn : Next σ o a w c K { val := .dat (.int k (k.wrap n)) }) : o.wp P a w K Q := by
  have h1 := und_int hT ht
  obtain ⟨d, h2, _⟩ := (hT s i hi).und
  have hp := (evalD_sound he hx).int_inv
  refine wp_value (rd := []) hs (x := .int k (k.wrap n)) ?_ (.dat _ _ (.int _ _)) hn
  simp only [execOp, ho, hp]
  apply run_v
  unfold convert
  simp only [Sem.run_bind, run_underlying h2 w, run_underlying h1 w, Result.andThen_ok]
  cases d <;> rfl
theorem sound_nilCheck {x : Operand} {k : Key} {off : Nat} (ho : o.op = .nilCheck x) (hx : evalO σ x = some (.ptr k off)) (hn : Next σ o a w c K { val := .ptr k off }) : o.wp P a w K Q := by
  have hp := evalO_sound he hx
  refine wp_value (rd := []) hs (x := a.eval x) ?_ hp hn
  generalize hu : a.eval x = u at hp
  cases hp
  simp [execOp, ho, hu]
theorem sound_makeMap {t : TypeId} (ho : o.op = .makeMap t none) (hn : Next σ o a w c K { val := .any }) : o.wp P a w K Q := by
  have hrun : (execOp a.eval o).run P w = .ok (.value (.map (some w.heap.size))) (w.alloc (.map #[] 0)) := by
    simp [execOp, ho, Instr.makeMap, newObj]
    rfl
  refine wp_of_run hrun (hn _ _ c (.any _ rfl) ?_)
  exact stepF_grown hs o.dst _ _ ⟨rfl, rfl, rfl, by simp, fun k hk _ => Below.heap_alloc _ _ _ hk⟩
theorem sound_not {t : TypeId} {x : Operand} {b : Bool} (ho : o.op = .unOp .not t x) (hx : evalD σ x = some (.bool b)) (hn : Next σ o a w c K { val := .dat (.bool (!b)) }) : o.wp P a w K Q := by
  have h := (evalD_sound he hx).bool_inv
  exact wp_value (rd := []) hs (x := .bool (!b)) (by simp [execOp, ho, h, Op.unary]) (.dat _ _ (.bool _)) hn
theorem sound_fieldAddr_box (hT : ∀ t i, T t = some i → i.Good P t) {t : TypeId} {x : Operand} {f : Nat} {fs : List (Nat × Nat × Bool)} {k : Key} {off : Nat} {p : Nat × Nat × Bool} (ho : o.op = .fieldAddr t x f) (ht : tyOf T t = .struct fs)
    (hx : evalO σ x = some (.ptr k off)) (hf : fs[f]? = some p) (hn : Next σ o a w c K { val := .ptr k (off + p.1) }) : o.wp P a w K Q := by
  obtain ⟨fields, h1, _, h2⟩ := und_struct hT ht
  obtain ⟨fo, sz, ag⟩ := p
  obtain ⟨fd, h3, h4, h5, ⟨inf, h6, h7⟩, _⟩ := h2 f fo sz ag hf
  have hp := evalO_sound he hx
  obtain ⟨b, hb, hm⟩ : ∃ b, a.eval x = .pointer (some ⟨b, off, none⟩) ∧ c.M k = some b := by
    generalize a.eval x = u at hp ⊢
    cases hp with | ptr _ _ b h => exact ⟨b, rfl, h⟩
  refine wp_value (rd := []) hs (x := .pointer (some ⟨b, off + fo, none⟩)) ?_ (.ptr _ _ _ hm) hn
  have hz : ¬ inf.size = 0 := by omega
  simp [execOp, ho, hb, Instr.fieldAt, run_underlying h1, h3, Instr.sureAddr, fieldPlace, run_sizeOf_info h6, hz, addr_add, h4]
theorem sound_fieldAddr_ip (hT : ∀ t i, T t = some i → i.Good P t) {t : TypeId} {x : Operand} {f : Nat} {fs : List (Nat × Nat × Bool)} {cs : List DV} {off : Nat} {p : Nat × Nat × Bool} (ho : o.op = .fieldAddr t x f) (ht : tyOf T t = .struct fs)
    (hx : evalO σ x = some (.dat (.ip cs off))) (hf : fs[f]? = some p) (hn : Next σ o a w c K { val := .dat (.ip cs (off + p.1)) }) : o.wp P a w K Q := by
  obtain ⟨fields, h1, _, h2⟩ := und_struct hT ht
  obtain ⟨fo, sz, ag⟩ := p
  obtain ⟨fd, h3, h4, h5, ⟨inf, h6, h7⟩, _⟩ := h2 f fo sz ag hf
  have hp := evalO_sound he hx
  have hz : ¬ inf.size = 0 := by omega
  generalize hu : a.eval x = u at hp
  cases hp with
  | dat _ _ h =>
    cases h with
    | ip _ _ b o' g hk hone hr =>
      refine wp_value (rd := []) hs (x := .pointer (some ⟨b, o' + (off + fo), none⟩)) ?_ (.dat _ _ (.ip _ _ _ _ g hk hone hr)) hn
      simp [execOp, ho, hu, Instr.fieldAt, run_underlying h1, h3, Instr.sureAddr, fieldPlace, run_sizeOf_info h6, hz, addr_add, h4, Nat.add_assoc]
theorem sound_indexAddr (hT : ∀ t i, T t = some i → i.Good P t) {t e : TypeId} {x i : Operand} {sz bytes : Nat} {es : List (List DV)} {k : IntKind} {n : Int} {cs : List DV} (ho : o.op = .indexAddr t x i) (ht : tyOf T t = .slice e sz bytes)
    (hx : evalD σ x = some (.lst sz es)) (hi : evalD σ i = some (.int k n)) (h0 : 0 ≤ n) (hc : es[n.toNat]? = some cs) (hn : Next σ o a w c K { val := .dat (.ip cs 0) }) : o.wp P a w K Q := by
  obtain ⟨h1, h2, ie, z, h3, h4, _⟩ := und_slice hT ht
  have hk := (evalD_sound he hi).int_inv
  have hp := evalD_sound he hx
  generalize hu : a.eval x = u at hp
  have hlt := (List.getElem?_eq_some_iff.1 hc).1
  cases hp with
  | nils => simp at hc
  | emp => simp at hc
  | lst _ _ b o' cap f g1 g2 gs gk go gr =>
    refine wp_value (rd := []) hs (x := .pointer (some ⟨b, (o' + n.toNat * sz) + 0, none⟩)) ?_ (.dat _ _ (.ip _ _ _ _ (f n.toNat) (fun j d hj => gk _ _ hc j d hj) (fun j d hj => go _ _ hc j d hj) (fun j d hj => gr _ _ hc j d hj))) hn
    have hb : 0 ≤ n ∧ n < (es.length : Int) := ⟨h0, by omega⟩
    simp [execOp, ho, hu, hk, Instr.indexAt, asIntOf, run_underlying h1, hb, run_sizeOf_info h3, h4, addr_add]
theorem sound_index (hT : ∀ t i, T t = some i → i.Good P t) {t : TypeId} {x i : Operand} {s : List UInt8} {k : IntKind} {n : Int} {b : UInt8} (ho : o.op = .index t x i) (ht : tyOf T t = .str)
    (hx : evalD σ x = some (.str s)) (hi : evalD σ i = some (.int k n)) (h0 : 0 ≤ n) (hc : s[n.toNat]? = some b) (hn : Next σ o a w c K { val := .dat (.int .u8 b.toNat) }) : o.wp P a w K Q := by
  have h1 := und_str hT ht
  have hk := (evalD_sound he hi).int_inv
  obtain ⟨hp, _⟩ := (evalD_sound he hx).str_inv
  refine wp_value (rd := []) hs (x := .int .u8 b.toNat) ?_ (.dat _ _ (.int _ _)) hn
  have hg : (if 0 ≤ n then (⟨s.toArray⟩ : ByteArray)[n.toNat]? else none) = some b := by
    rw [if_pos h0]
    have hlt := (List.getElem?_eq_some_iff.1 hc).1
    have hlt' : n.toNat < (⟨s.toArray⟩ : ByteArray).size := hlt
    have := (List.getElem?_eq_some_iff.1 hc).2
    rw [getElem?_pos (⟨s.toArray⟩ : ByteArray) n.toNat hlt']
    show some s[n.toNat] = some b
    rw [this]
  simp [execOp, ho, hp, hk, Instr.index, asIntOf, run_underlying h1, hg]
theorem sound_extract {x : Operand} {i : Nat} {vs : List DV} {d : DV} (ho : o.op = .extract x i) (hx : evalO σ x = some (.dat (.tup vs))) (hi : vs[i]? = some d) (hn : Next σ o a w c K { val := .dat d }) : o.wp P a w K Q := by
  have hp := evalO_sound he hx
  generalize hu : a.eval x = u at hp
  cases hp with
  | dat _ _ h =>
    cases h with
    | tup _ us hl hr =>
      have hlt : i < us.size := by rw [hl]; exact (List.getElem?_eq_some_iff.1 hi).1
      exact wp_value (rd := []) hs (x := us.getD i undef) (by simp [execOp, ho, hu, Instr.extract, hlt]) (.dat _ _ (hr i d hi)) hn
theorem sound_field (hT : ∀ t i, T t = some i → i.Good P t) {t : TypeId} {x : Operand} {f : Nat} {fs : List (Nat × Nat × Bool)} {cs : List DV} {off sz : Nat} {ag : Bool} {d : DV} (ho : o.op = .field t x f) (ht : tyOf T t = .struct fs)
    (hx : evalD σ x = some (.agg cs)) (hf : fs[f]? = some (off, sz, ag)) (hd : (ag = true ∧ off + sz ≤ cs.length ∧ d = .agg ((cs.drop off).take sz)) ∨ (ag = false ∧ cs[off]? = some d))
    (hn : Next σ o a w c K { val := .dat d }) : o.wp P a w K Q := by
  obtain ⟨fields, h1, _, h2⟩ := und_struct hT ht
  obtain ⟨fd, h3, h4, h5, ⟨inf, h6, h7⟩, df, h8, h9⟩ := h2 f off sz ag hf
  have hp := evalD_sound he hx
  generalize hu : a.eval x = u at hp
  cases hp with
  | agg _ vs hl hone hr =>
    have hg := run_isAgg_desc h8 w
    rw [h9] at hg
    rcases hd with ⟨rfl, hl2, rfl⟩ | ⟨rfl, hd⟩
    · refine wp_value (rd := []) hs (x := .agg (vs.extract off (off + sz))) ?_ (.dat _ _ (.agg _ _ (by simp; omega) (fun j d hj => ?_) fun j d hj => ?_)) hn
      · simp [execOp, ho, hu, Instr.field, run_underlying h1, h3, asAgg, part, hg, run_sizeOf_info h6, h7, h4]
      all_goals
        simp only [List.getElem?_take, List.getElem?_drop] at hj
        split at hj
        · rename_i hlt
          have hlt2 : off + j < vs.size := by omega
          have : (vs.extract off (off + sz)).getD j undef = vs.getD (off + j) undef := by
            simp [Array.getElem?_extract, show j < min (off + sz) vs.size - off by omega, hlt2]
          rw [this]
          first | exact hone _ d hj | exact hr _ d hj
        · cases hj
    · have hlt : off < vs.size := by rw [hl]; exact (List.getElem?_eq_some_iff.1 hd).1
      refine wp_value (rd := []) hs (x := vs.getD off undef) ?_ (.dat _ _ (hr off d hd)) hn
      simp [execOp, ho, hu, Instr.field, run_underlying h1, h3, asAgg, part, hg, h4, hlt]
theorem sound_extract_tup {x : Operand} {i : Nat} {vs : List PV} {d : PV} (ho : o.op = .extract x i) (hx : evalO σ x = some (.tup vs)) (hi : vs[i]? = some d) (hn : Next σ o a w c K { val := d }) : o.wp P a w K Q := by
  have hp := evalO_sound he hx
  generalize hu : a.eval x = u at hp
  cases hp with
  | tup _ us hl hr =>
    have hlt : i < us.size := by rw [hl]; exact (List.getElem?_eq_some_iff.1 hi).1
    exact wp_value (rd := []) hs (x := us.getD i undef) (by simp [execOp, ho, hu, Instr.extract, hlt]) (hr i d hi) hn
theorem sound_field_mix {m : Bool} (hT : ∀ t i, T t = some i → i.Good P t) {t : TypeId} {x : Operand} {f : Nat} {fs : List (Nat × Nat × Bool)} {cs : List PV} {off sz : Nat} {ag : Bool} {d : PV} (ho : o.op = .field t x f) (ht : tyOf T t = .struct fs)
    (hx : evalO σ x = some (.mix cs)) (hf : fs[f]? = some (off, sz, ag)) (hd : (ag = true ∧ off + sz ≤ cs.length ∧ d = collect m ((cs.drop off).take sz)) ∨ (ag = false ∧ cs[off]? = some d))
    (hn : Next σ o a w c K { val := d }) : o.wp P a w K Q := by
  obtain ⟨fields, h1, _, h2⟩ := und_struct hT ht
  obtain ⟨fd, h3, h4, h5, ⟨inf, h6, h7⟩, df, h8, h9⟩ := h2 f off sz ag hf
  have hp := evalO_sound he hx
  generalize hu : a.eval x = u at hp
  cases hp with
  | mix _ vs hl hone hr =>
    have hg := run_isAgg_desc h8 w
    rw [h9] at hg
    rcases hd with ⟨rfl, hl2, rfl⟩ | ⟨rfl, hd⟩
    · refine wp_value (rd := []) hs (x := .agg (vs.extract off (off + sz))) ?_ (collect_sound (by simp; omega) fun j p hj => ?_) hn
      · simp [execOp, ho, hu, Instr.field, run_underlying h1, h3, asAgg, part, hg, run_sizeOf_info h6, h7, h4]
      simp only [List.getElem?_take, List.getElem?_drop] at hj
      split at hj
      · rename_i hlt
        have hlt2 : off + j < vs.size := by omega
        have : (vs.extract off (off + sz)).getD j undef = vs.getD (off + j) undef := by
          simp [Array.getElem?_extract, show j < min (off + sz) vs.size - off by omega, hlt2]
        rw [this]
        exact ⟨hone _ p hj, hr _ p hj⟩
      · cases hj
    · have hlt : off < vs.size := by rw [hl]; exact (List.getElem?_eq_some_iff.1 hd).1
      refine wp_value (rd := []) hs (x := vs.getD off undef) ?_ (hr off d hd) hn
      simp [execOp, ho, hu, Instr.field, run_underlying h1, h3, asAgg, part, hg, h4, hlt]
theorem concrete_of (hT : ∀ t i, T t = some i → i.Good P t) {t : TypeId} {i : TyI} (hi : T t = some i) (hty : (∃ k, i.ty = .int k) ∨ i.ty = .str ∨ i.ty = .bool ∨ i.ty = .ptr) : P.concrete t = true := by
  clear hs he
  obtain ⟨ds, h1, h2⟩ := (hT t i hi).und
  unfold UndOk at h2
  unfold Program.concrete
  rcases hty with ⟨k, hk⟩ | hk | hk | hk <;> rw [hk] at h2
  · rw [h1, h2.1]
  · rw [h1, h2.1]
  · rw [h1, h2.1]
  · obtain ⟨⟨e, rfl⟩, _⟩ := h2; rw [h1]
theorem sound_makeInterface (hT : ∀ t i, T t = some i → i.Good P t) {t : TypeId} {i : TyI} {x : Operand} {d : DV} (ho : o.op = .makeInterface t x) (hi : T t = some i) (hty : (∃ k, i.ty = .int k) ∨ i.ty = .str ∨ i.ty = .bool ∨ i.ty = .ptr)
    (hx : evalO σ x = some (.dat d)) (hn : Next σ o a w c K { val := .dat (.ifc t d) }) : o.wp P a w K Q := by
  have hc := concrete_of hs he hT hi hty
  have hp := asD_sound (evalO_sound he hx) rfl
  exact wp_value (rd := []) hs (x := .iface t (a.eval x)) (by simp [execOp, ho, run_makeInterface w t _ hc]) (.dat _ _ (.ifc _ _ _ hp)) hn
theorem sound_makeInterfaceF (hT : ∀ t i, T t = some i → i.Good P t) {t : TypeId} {i : TyI} {x : Operand} {k : Key} {cs : List PV} {ds : List DV} (ho : o.op = .makeInterface t x) (hi : T t = some i) (hty : i.ty = .ptr)
    (hx : evalO σ x = some (.ptr k 0)) (hk : σ.mem k = some cs) (hds : allD1 cs = some ds) (hn : Next σ o a w c K { val := .dat (.ifc t (.ip ds 0)), rd := [k], rm := [k] }) : o.wp P a w K Q := by
  have hc := concrete_of hs he hT hi (.inr (.inr (.inr hty)))
  have hp := evalO_sound he hx
  obtain ⟨b, h1, hb⟩ : ∃ b, c.M k = some b ∧ a.eval x = .pointer (some ⟨b, 0, none⟩) := by
    generalize a.eval x = u at hp ⊢
    cases hp with
    | ptr _ _ b' hm => exact ⟨b', hm, rfl⟩
  obtain ⟨ty, arr, h2, h3, h4⟩ := (hs.box k cs hk).block h1
  obtain ⟨h5, h6⟩ := allD1_sound hds
  have hget : ∀ (j : Nat), j < cs.length → arr[j]? = some (arr.getD j undef) := fun j hj => some_of_lt undef (by omega)
  have hst := stepF_freeze hs o.dst (.dat (.ifc t (.ip ds 0))) [k] k b cs (fun j => arr.getD j undef) hk h1 (fun j hj => by rw [cell_of_row w b j arr ty (0, 0) h2]; exact hget j hj)
  refine wp_of_run (x := .iface t (.pointer (some ⟨b, 0, none⟩))) (w' := w) (by simp [execOp, ho, hb, run_makeInterface w t _ hc]) (hn _ _ _ (.dat _ _ (.ifc _ _ _ ?_)) hst)
  have hlt : ∀ {j : Nat} {d : DV}, ds[j]? = some d → j < cs.length := fun hj => by rw [← h5]; exact (List.getElem?_eq_some_iff.1 hj).1
  have hv : ∀ {j : Nat} {d : DV}, ds[j]? = some d → (arr.getD j undef).oneCell' = true ∧ RepD c.K d (arr.getD j undef) := by
    intro j d hj
    obtain ⟨v, g1, g2⟩ := h6 j d hj
    obtain ⟨y, g3, g4, g5⟩ := h4 j v g1
    rw [getD_of_some g3]
    exact ⟨g4, asD1_sound g5 g2⟩
  refine .ip ds 0 b 0 (fun j => arr.getD j undef) (fun j d hj => ?_) (fun j d hj => (hv hj).1) (fun j d hj => (hv hj).2.mono hst.le.K)
  show (if b = b then (if 0 + j < cs.length then some _ else none) else _) = _
  rw [if_pos rfl, Nat.zero_add, if_pos (hlt hj)]
theorem sound_makeFunc {f : FuncId} {first cap : Array Operand} {m l : List PV} (ho : o.op = .makeFunc (.func f) first cap) (hm : argsP σ first.toList = some m) (hl : argsP σ cap.toList = some l) (hn : Next σ o a w c K { val := .clo f m l }) : o.wp P a w K Q := by
  obtain ⟨h1, h2⟩ := argsP_sound he hl
  obtain ⟨g1, g2⟩ := argsP_sound he hm
  refine wp_value (rd := []) hs (x := .func (.func f) (first.map a.eval) (cap.map a.eval)) (by simp [execOp, ho, Instr.makeFunc]) (.clo _ _ _ _ _ (by simp [g1]) (fun j v hj => ?_) (by simp [h1]) fun j v hj => ?_) hn
  · obtain ⟨x, h3, h4⟩ := g2 j v hj
    simp only [Array.getElem?_toList] at h3
    simpa [h3] using h4
  · obtain ⟨x, h3, h4⟩ := h2 j v hj
    simp only [Array.getElem?_toList] at h3
    simpa [h3] using h4
theorem sound_indexAddr_row (hT : ∀ t i, T t = some i → i.Good P t) {t e : TypeId} {x i : Operand} {sz bytes : Nat} {τ : Key} {cs : List PV} {k : IntKind} {n : Int} (ho : o.op = .indexAddr t x i) (ht : tyOf T t = .slice e sz bytes)
    (hx : evalO σ x = some (.row τ sz)) (hi : evalD σ i = some (.int k n)) (hk : σ.mem τ = some cs) (h0 : 0 ≤ n) (hl : n.toNat * sz + sz ≤ cs.length) (hn : Next σ o a w c K { val := .ptr τ (n.toNat * sz), rd := [τ] }) : o.wp P a w K Q := by
  obtain ⟨h1, h2, ie, z, h3, h4, _⟩ := und_slice hT ht
  have hkk := (evalD_sound he hi).int_inv
  have hp := evalO_sound he hx
  generalize hu : a.eval x = u at hp
  cases hp with
  | row _ _ _ e' ho' =>
    rcases hs.box τ cs hk with ⟨h0', _⟩ | ⟨x', e2, sz2, m, xs, g1, g2, g3, g4, g5⟩
    · rw [h0'] at ho'; cases ho'
    · rw [ho'] at g1
      cases g1
      rcases g2.2 with ⟨rfl, rfl⟩ | ⟨g, cap, cur, rfl, _, _⟩
      · exfalso; rw [g4] at hl; omega
      · refine wp_value hs (x := .pointer (some ⟨g, n.toNat * sz, none⟩)) ?_ (.ptr _ _ _ g3) hn
        have hm : n.toNat < m := by
          rw [g4] at hl
          rcases Nat.lt_or_ge n.toNat m with q | q
          · exact q
          · have := Nat.mul_le_mul_right sz q
            omega
        have hb : 0 ≤ n ∧ n < (m : Int) := ⟨h0, by omega⟩
        simp [execOp, ho, hu, hkk, Instr.indexAt, asIntOf, run_underlying h1, hb, run_sizeOf_info h3, h4, addr_add]
theorem sound_slice_str (hT : ∀ t i, T t = some i → i.Good P t) {t : TypeId} {x : Operand} {lo hi : Option Operand} {s : List UInt8} {l h : Int} (ho : o.op = .slice t x lo hi none) (ht : tyOf T t = .str) (hx : evalD σ x = some (.str s))
    (hl : wordO σ lo 0 = some l) (hh : wordO σ hi s.length = some h) (hb : 0 ≤ l ∧ l ≤ h ∧ h ≤ s.length) (hn : Next σ o a w c K { val := .dat (.str ((s.take h.toNat).drop l.toNat)) }) : o.wp P a w K Q := by
  have h1 := und_str hT ht
  obtain ⟨hp, hm⟩ := (evalD_sound he hx).str_inv
  have hres : ∀ L H : Nat, L = l.toNat → H = h.toNat → RepD c.K (.str ((s.take h.toNat).drop l.toNat)) (.string ((⟨s.toArray⟩ : ByteArray).extract L H)) := by
    rintro L H rfl rfl
    have : (⟨s.toArray⟩ : ByteArray).extract l.toNat h.toNat = ⟨((s.take h.toNat).drop l.toNat).toArray⟩ := by
      apply ByteArray.ext
      rw [ByteArray.data_extract]
      simp [List.extract_eq_take_drop, List.drop_take]
    rw [this]
    exact .str _ (by simp; omega)
  have hsz : (⟨s.toArray⟩ : ByteArray).size = s.length := rfl
  refine wp_value (rd := []) hs (x := .string ((⟨s.toArray⟩ : ByteArray).extract l.toNat h.toNat)) ?_ (.dat _ _ (hres _ _ rfl rfl)) hn
  have hh' : (match hi.map a.eval with | some v => Instr.sliceBound v s.length .sliceAlen | none => pure s.length : Sem Nat).run P w = .ok h.toNat w := by
    cases hi with
    | none => simp [wordO] at hh; subst hh; simp
    | some y =>
      obtain ⟨k, hk⟩ := wordO_sound he hh
      simp only [Option.map_some, hk]
      exact run_sliceBound w k h s.length _ (by omega) (by omega)
  have hl' : (match lo.map a.eval with | some v => Instr.sliceBound v h.toNat .sliceB | none => pure 0 : Sem Nat).run P w = .ok l.toNat w := by
    cases lo with
    | none => simp [wordO] at hl; subst hl; simp
    | some y =>
      obtain ⟨k, hk⟩ := wordO_sound he hl
      simp only [Option.map_some, hk]
      exact run_sliceBound w k l h.toNat _ (by omega) (by omega)
  have hbd : (Instr.sliceBounds false s.length s.length (lo.map a.eval) (hi.map a.eval) none).run P w = .ok (l.toNat, h.toNat, s.length) w := by
    simp only [Instr.sliceBounds, Sem.run_bind, Sem.run_pure, Result.andThen_ok]
    cases hi with
    | none =>
      simp only [Option.map_none] at hh' ⊢
      rw [Sem.run_bind, hh', Result.andThen_ok]
      simp only [Option.isSome_none, Bool.false_eq_true, if_false]
      cases lo with
      | none => simp only [Option.map_none] at hl' ⊢; rw [Sem.run_bind, hl']; rfl
      | some z => simp only [Option.map_some] at hl' ⊢; rw [Sem.run_bind, hl']; rfl
    | some y =>
      simp only [Option.map_some] at hh' ⊢
      simp only [Bool.false_eq_true, if_false]
      rw [Sem.run_bind, hh', Result.andThen_ok]
      simp only [Option.isSome_none, Bool.false_eq_true, if_false]
      cases lo with
      | none => simp only [Option.map_none] at hl' ⊢; rw [Sem.run_bind, hl']; rfl
      | some z => simp only [Option.map_some] at hl' ⊢; rw [Sem.run_bind, hl']; rfl
  simp only [execOp, ho]
  apply run_v
  simp only [Option.map_none, Instr.sliceAt, Sem.run_bind, run_underlying h1 w, Result.andThen_ok, hp, Instr.slice, Option.isSome_none, Bool.false_eq_true, if_false, hsz, hbd, Sem.run_pure]
end
end Go.Proofs.YtbeafnkcimfeeaaGreatDoor.AM
/- The abstract machine (8): rows, literals, builtins, calls. -/
namespace Go.Proofs.YtbeafnkcimfeeaaGreatDoor.AM
set_option linter.unusedVariables false
set_option linter.unusedSimpArgs false
open Go.RowKit
set_option linter.unusedVariables false
set_option linter.unusedSimpArgs false
set_option linter.unusedSectionVars false
section
variable {P : Program} {T : Tab} {o : Oper} {σ : St} {a : Act} {w : World} {c : Cfg} {e : Eff} {K : Act → World → Prop} {Q : Exit → Act → World → Prop}
theorem run_slice_lo {σ : St} {a : Act} {c : Cfg} (he : EnvOk σ a c) {lo : Option Operand} {l : Int} {h : Nat} (hl : wordO σ lo 0 = some l) (h0 : 0 ≤ l) (h1 : l ≤ h) (code : BoundsCode) (w : World) :
    (match lo.map a.eval with | some v => Instr.sliceBound v h code | none => pure 0 : Sem Nat).run P w = .ok l.toNat w := by
  cases lo with
  | none => simp [wordO] at hl; subst hl; simp
  | some y =>
    obtain ⟨k, hk⟩ := wordO_sound he hl
    simp only [Option.map_some, hk]
    exact run_sliceBound w k l h _ (by omega) (by omega)
theorem run_slice_hi {σ : St} {a : Act} {c : Cfg} (he : EnvOk σ a c) {hi : Option Operand} {h : Int} {len cap : Nat} (hh : wordO σ hi len = some h) (h0 : 0 ≤ h) (h1 : h ≤ len) (hc : len ≤ cap) (code : BoundsCode) (w : World) :
    (match hi.map a.eval with | some v => Instr.sliceBound v cap code | none => pure len : Sem Nat).run P w = .ok h.toNat w := by
  cases hi with
  | none => simp [wordO] at hh; subst hh; simp
  | some y =>
    obtain ⟨k, hk⟩ := wordO_sound he hh
    simp only [Option.map_some, hk]
    exact run_sliceBound w k h cap _ (by omega) (by omega)
theorem run_sliceBounds' {σ : St} {a : Act} {c : Cfg} (he : EnvOk σ a c) {lo hi : Option Operand} {l h : Int} {len cap : Nat} (isS : Bool) (hl : wordO σ lo 0 = some l) (hh : wordO σ hi len = some h) (hb : 0 ≤ l ∧ l ≤ h ∧ h ≤ len) (hc : len ≤ cap) (w : World) :
    (Instr.sliceBounds isS len cap (lo.map a.eval) (hi.map a.eval) none).run P w = .ok (l.toNat, h.toNat, cap) w := by
  have h1 := fun code => run_slice_hi (P := P) he hh (by omega) hb.2.2 hc code w
  have h2 := fun code => run_slice_lo (P := P) (h := h.toNat) he hl hb.1 (by omega) code w
  simp only [Instr.sliceBounds, Sem.run_bind, Sem.run_pure, Result.andThen_ok]
  cases hi with
  | none =>
    have h1 := h1 .sliceAlen
    simp only [Option.map_none] at h1 ⊢
    rw [Sem.run_bind, h1, Result.andThen_ok]
    simp only [Option.isSome_none, Bool.false_eq_true, if_false]
    have h2 := h2 .sliceB
    cases lo with
    | none => simp only [Option.map_none] at h2 ⊢; rw [Sem.run_bind, h2]; rfl
    | some z => simp only [Option.map_some] at h2 ⊢; rw [Sem.run_bind, h2]; rfl
  | some y =>
    have h1 := h1 (if isS = true then .sliceAcap else .sliceAlen)
    simp only [Option.map_some] at h1 ⊢
    rw [Sem.run_bind, h1, Result.andThen_ok]
    simp only [Option.isSome_none, Bool.false_eq_true, if_false]
    have h2 := h2 .sliceB
    cases lo with
    | none => simp only [Option.map_none] at h2 ⊢; rw [Sem.run_bind, h2]; rfl
    | some z => simp only [Option.map_some] at h2 ⊢; rw [Sem.run_bind, h2]; rfl
variable (hs : HS σ w c) (he : EnvOk σ a c)
include hs he
theorem sound_slice_lst (hT : ∀ t i, T t = some i → i.Good P t) {t e : TypeId} {sz bytes : Nat} {x : Operand} {lo hi : Option Operand} {es : List (List DV)} {l h : Int} (ho : o.op = .slice t x lo hi none) (ht : tyOf T t = .slice e sz bytes) (hx : evalD σ x = some (.lst sz es))
    (hl : wordO σ lo 0 = some l) (hh : wordO σ hi es.length = some h) (hb : 0 ≤ l ∧ l ≤ h ∧ h ≤ es.length) (hn : Next σ o a w c K { val := .dat (.lst sz ((es.take h.toNat).drop l.toNat)) }) : o.wp P a w K Q := by
  obtain ⟨h1, h2, ie, z, h3, h4, _⟩ := und_slice hT ht
  have hp := evalD_sound he hx
  generalize hu : a.eval x = u at hp
  have hget : ∀ (i : Nat) (r : List DV), ((es.take h.toNat).drop l.toNat)[i]? = some r → es[l.toNat + i]? = some r := by
    intro i r hr
    simp only [List.getElem?_drop, List.getElem?_take] at hr
    split at hr
    · exact hr
    · cases hr
  have hlen : ((es.take h.toNat).drop l.toNat).length = h.toNat - l.toNat := by simp; omega
  cases hp with
  | nils =>
    simp at hb
    obtain rfl : l = 0 := by omega
    obtain rfl : h = 0 := by omega
    refine wp_value (rd := []) hs (x := .slice none 0 0) ?_ (.dat _ _ (by simpa using RepD.nils sz)) hn
    have hbd := run_sliceBounds' (P := P) (len := 0) (cap := 0) he true hl hh (by omega) (Nat.le_refl _) w
    simp only [execOp, ho]
    apply run_v
    simp [Instr.sliceAt, run_underlying h1 w, hu, Instr.slice, hbd, run_sizeOf_info h3 w]
  | emp _ ad =>
    simp at hb
    obtain rfl : l = 0 := by omega
    obtain rfl : h = 0 := by omega
    refine wp_value (rd := []) hs (x := .slice (some ad) 0 0) ?_ (.dat _ _ (by simpa using RepD.emp sz ad)) hn
    have hbd := run_sliceBounds' (P := P) (len := 0) (cap := 0) he true hl hh (by omega) (Nat.le_refl _) w
    simp only [execOp, ho]
    apply run_v
    simp [Instr.sliceAt, run_underlying h1 w, hu, Instr.slice, hbd, run_sizeOf_info h3 w]
  | lst _ _ b o' cap f g1 g2 gs gk go gr =>
    have hbd := run_sliceBounds' (P := P) (len := es.length) (cap := cap) he true hl hh hb g1 w
    have hres : RepD c.K (.lst sz ((es.take h.toNat).drop l.toNat)) (.slice (if cap = l.toNat then some ⟨b, o', none⟩ else some ⟨b, o' + l.toNat * sz, none⟩) (h.toNat - l.toNat) (cap - l.toNat)) := by
      rw [← hlen]
      have hsz : ∀ r ∈ (es.take h.toNat).drop l.toNat, r.length = sz := fun r hr => gs r (List.mem_of_mem_take (List.mem_of_mem_drop hr))
      by_cases hc : cap = l.toNat
      · rw [if_pos hc]
        have he' : (es.take h.toNat).drop l.toNat = [] := List.eq_nil_of_length_eq_zero (by rw [hlen]; omega)
        rw [he']
        exact .lst _ _ _ _ _ f (by simp) (by omega) (by simp) (fun i r hr => by simp at hr) (fun i r hr => by simp at hr) (fun i r hr => by simp at hr)
      · rw [if_neg hc]
        refine .lst _ _ _ _ _ (fun i j => f (l.toNat + i) j) (by rw [hlen]; omega) (by omega) hsz (fun i r hr j d hd => ?_) (fun i r hr j d hd => go _ _ (hget i r hr) j d hd) (fun i r hr j d hd => gr _ _ (hget i r hr) j d hd)
        have := gk _ _ (hget i r hr) j d hd
        rw [Nat.add_mul, ← Nat.add_assoc] at this
        exact this
    refine wp_value (rd := []) hs ?_ (.dat _ _ hres) hn
    simp only [execOp, ho]
    apply run_v
    simp [Instr.sliceAt, run_underlying h1 w, hu, Instr.slice, hbd, run_sizeOf_info h3 w, h4, addr_add]
theorem sound_len_str (hT : ∀ t i, T t = some i → i.Good P t) {cl : Call} {x : Operand} {s : List UInt8} {v : PV} (ho : o.op = .call cl) (hc : cl.callee = .builtin .len) (ha : cl.args = #[x]) (hx : evalO σ x = some v) (hv : asD v = some (.str s))
    (ht : ∃ t, cl.argTypes[0]? = some t ∧ tyOf T t = .str) (hn : s.length ≤ maxLen → Next σ o a w c K { val := .dat (.int .i64 s.length) }) : o.wp P a w K Q := by
  obtain ⟨t, h1, h2⟩ := ht
  have h3 := und_str hT h2
  obtain ⟨hp, hm⟩ := (asD_sound (evalO_sound he hx) hv).str_inv
  refine wp_value (rd := []) hs (x := .int .i64 s.length) ?_ (.dat _ _ (.int _ _)) (hn hm)
  have hsz : (⟨s.toArray⟩ : ByteArray).size = s.length := rfl
  simp [execOp, ho, resolve, hc, ha, invoke, builtin, Builtin.len_, h1, run_underlying h3, hp, goInt, hsz]
theorem sound_len_row (hT : ∀ t i, T t = some i → i.Good P t) {cl : Call} {x : Operand} {v : PV} {d : DV} {sy : Nat} {es : List (List DV)} (ho : o.op = .call cl) (hc : cl.callee = .builtin .len) (ha : cl.args = #[x]) (hx : evalO σ x = some v) (hv : asD v = some d) (hd : rowD d = some (sy, es))
    (ht : ∃ t e sz by', cl.argTypes[0]? = some t ∧ tyOf T t = .slice e sz by') (hn : es.length ≤ maxLen → Next σ o a w c K { val := .dat (.int .i64 es.length) }) : o.wp P a w K Q := by
  obtain ⟨t, e, sz, by', h1, h2⟩ := ht
  obtain ⟨h3, _⟩ := und_slice hT h2
  have hp := asD_sound (evalO_sound he hx) hv
  have hr : ∃ b cap, a.eval x = .slice b es.length cap ∧ es.length ≤ maxLen := by
    generalize a.eval x = u at hp ⊢
    cases hp <;> simp [rowD] at hd
    · obtain ⟨_, rfl⟩ := hd; exact ⟨none, 0, rfl, by simp [maxLen]⟩
    · obtain ⟨_, rfl⟩ := hd; exact ⟨none, 0, rfl, by simp [maxLen]⟩
    · rename_i h1 h2 _ _ _ _
      obtain ⟨_, rfl⟩ := hd; exact ⟨_, _, rfl, Nat.le_trans h1 h2⟩
    · obtain ⟨_, rfl⟩ := hd; exact ⟨_, 0, rfl, by simp [maxLen]⟩
  obtain ⟨b, cap, hr, hm⟩ := hr
  refine wp_value (rd := []) hs (x := .int .i64 es.length) ?_ (.dat _ _ (.int _ _)) (hn hm)
  simp [execOp, ho, resolve, hc, ha, invoke, builtin, Builtin.len_, h1, run_underlying h3, hr, goInt]
theorem sound_min {cl : Call} {x y : Operand} {u v : PV} {k : IntKind} {p q : Int} (ho : o.op = .call cl) (hc : cl.callee = .builtin .min) (ha : cl.args = #[x, y]) (hx : evalO σ x = some u) (hu : asD u = some (.int k p)) (hy : evalO σ y = some v) (hv : asD v = some (.int k q))
    (hn : Next σ o a w c K { val := .dat (.int k (if q < p then q else p)) }) : o.wp P a w K Q := by
  have h1 := (asD_sound (evalO_sound he hx) hu).int_inv
  have h2 := (asD_sound (evalO_sound he hy) hv).int_inv
  refine wp_value (rd := []) hs (x := .int k (if q < p then q else p)) ?_ (.dat _ _ (.int _ _)) hn
  simp [execOp, ho, resolve, hc, ha, invoke, builtin, Builtin.min_, h1, h2, Builtin.min2]
theorem sound_max {cl : Call} {x y : Operand} {u v : PV} {k : IntKind} {p q : Int} (ho : o.op = .call cl) (hc : cl.callee = .builtin .max) (ha : cl.args = #[x, y]) (hx : evalO σ x = some u) (hu : asD u = some (.int k p)) (hy : evalO σ y = some v) (hv : asD v = some (.int k q))
    (hn : Next σ o a w c K { val := .dat (.int k (if p < q then q else p)) }) : o.wp P a w K Q := by
  have h1 := (asD_sound (evalO_sound he hx) hu).int_inv
  have h2 := (asD_sound (evalO_sound he hy) hv).int_inv
  refine wp_value (rd := []) hs (x := .int k (if p < q then q else p)) ?_ (.dat _ _ (.int _ _)) hn
  simp [execOp, ho, resolve, hc, ha, invoke, builtin, Builtin.max_, h1, h2, Builtin.max2]
theorem sound_call {cl : Call} {f : Operand} {args : List PV} {g : FuncId} {fst caps : List PV} {d : Nat} {rdm : List (Key × List PV)} {e : Eff} (ho : o.op = .call cl) (hc : cl.callee = .value f) (ha : argsP σ cl.args.toList = some args) (hf : evalO σ f = some (.clo g fst caps))
    (hd : o.dst = some d) (hr : ∀ p ∈ rdm, σ.mem p.1 = some p.2) (hu : ∀ τ ∈ e.use, σ.live τ = true) (hE : CallE P g (fst ++ args ++ caps) rdm d σ.ep e) (hfr : FreshAt c d σ.ep)
    (hn : Next σ o a w c K e) : o.wp P a w K Q := by
  obtain ⟨h1, h2⟩ := argsP_sound he ha
  obtain ⟨hent, hrd, hcall⟩ := hE
  have hp := evalO_sound he hf
  generalize hv : a.eval f = v at hp
  cases hp with
  | clo _ _ _ ys xs hm hg hl hx =>
    have hrun : (execOp a.eval o).run P w = .ok (.enter g (ys ++ cl.args.map a.eval ++ xs)) w := by
      simp only [execOp, ho, resolve, hc, hv, Deferred.ofValue, Sem.run_bind, Sem.run_pure, Result.andThen_ok, invoke]
      exact hent (ys ++ cl.args.map a.eval ++ xs) w
    unfold Oper.wp
    rw [hrun, Oper.upon_enter]
    refine (hcall σ w c (ys ++ cl.args.map a.eval ++ xs) rfl hr hu hs hfr ⟨by simp [h1, hl, hm], fun j v hj => ?_⟩).mono (fun en w' hh => ?_)
    · rw [List.getElem?_append] at hj
      split at hj
      · rename_i hlt
        rw [List.getElem?_append] at hj
        split at hj
        · rename_i hlt2
          have hlt' : j < ys.size := by omega
          have : (ys ++ cl.args.map a.eval ++ xs).getD j undef = ys.getD j undef := by
            simp only [Array.getD_eq_getD_getElem?]
            rw [Array.append_assoc, Array.getElem?_append_left hlt']
          rw [this]; exact hg j v hj
        · rename_i hlt2
          obtain ⟨x, h3, h4⟩ := h2 (j - fst.length) v hj
          simp only [Array.getElem?_toList] at h3
          have hj' : j - ys.size < (cl.args.map a.eval).size := by
            rw [hm]
            simpa using (Array.getElem?_eq_some_iff.1 h3).1
          have : (ys ++ cl.args.map a.eval ++ xs).getD j undef = a.eval x := by
            apply getD_of_some
            rw [Array.append_assoc, Array.getElem?_append_right (by omega), Array.getElem?_append_left hj', hm]
            simp [h3]
          rw [this]; exact h4
      · rename_i hlt
        have hlt' : (ys ++ cl.args.map a.eval).size ≤ j := by simp [hm] at hlt ⊢; rw [h1] at hlt; simpa using hlt
        have : (ys ++ cl.args.map a.eval ++ xs).getD j undef = xs.getD (j - (fst ++ args).length) undef := by
          simp only [Array.getD_eq_getD_getElem?]
          rw [Array.getElem?_append_right hlt', Array.size_append, Array.size_map, List.length_append, h1, hm]; simp
        rw [this]; exact hx _ v hj
    · obtain ⟨v', c', rfl, h3, h4⟩ := hh
      exact hn v' w' c' h3 (by rw [hd]; exact h4)
theorem row_value {x : Operand} {τ : Key} {sz : Nat} {cs : List PV} (hx : evalO σ x = some (.row τ sz)) (hk : σ.mem τ = some cs) :
    ∃ v e n xs, a.eval x = v ∧ c.O τ = some (v, e, sz) ∧ w.ownsRow 0 e sz v n xs ∧ c.M τ = v.ownBlock ∧ cs.length = n * sz ∧ CellsR c cs fun j => xs[j]? := by
  have hp := evalO_sound he hx
  generalize hu : a.eval x = u at hp
  cases hp with
  | row _ _ _ e' ho' _ =>
    rcases hs.box τ cs hk with ⟨h0', _⟩ | ⟨x', e2, sz2, m, xs, g1, g2, g3, g4, g5⟩
    · rw [h0'] at ho'; cases ho'
    · rw [ho'] at g1
      cases g1
      exact ⟨u, e', m, xs, rfl, ho', g2, g3, g4, g5⟩
theorem ownsRow_value {w : World} {e : TypeId} {sz n : Nat} {v : Value} {xs : List Value} (h : w.ownsRow 0 e sz v n xs) : ∃ a cap, v = .slice a n cap ∧ n ≤ cap ∧ cap ≤ maxLen := by
  rcases h.2 with ⟨rfl, rfl⟩ | ⟨g, cap, cur, rfl, _, _, h1, h2, _⟩
  · exact ⟨none, 0, rfl, Nat.le_refl _, Nat.zero_le _⟩
  · exact ⟨_, cap, rfl, h1, h2⟩
theorem sound_len_own (hT : ∀ t i, T t = some i → i.Good P t) {cl : Call} {x : Operand} {τ : Key} {sz : Nat} {cs : List PV} (ho : o.op = .call cl) (hc : cl.callee = .builtin .len) (ha : cl.args = #[x]) (hx : evalO σ x = some (.row τ sz)) (hk : σ.mem τ = some cs)
    (ht : ∃ t e by', cl.argTypes[0]? = some t ∧ tyOf T t = .slice e sz by') (hn : Next σ o a w c K { val := .dat (.int .i64 (cs.length / sz : Nat)), rd := [τ] }) : o.wp P a w K Q := by
  obtain ⟨t, e, by', h1, h2⟩ := ht
  obtain ⟨h3, hpos, _⟩ := und_slice hT h2
  obtain ⟨v, e2, n, xs, hv, g1, g2, g3, g4, g5⟩ := row_value hs he hx hk
  obtain ⟨b, cap, rfl, g6, g7⟩ := ownsRow_value hs he g2
  have hd : cs.length / sz = n := by rw [g4]; exact Nat.mul_div_cancel _ hpos
  rw [hd] at hn
  refine wp_value hs (x := .int .i64 n) ?_ (.dat _ _ (.int _ _)) hn
  simp [execOp, ho, resolve, hc, ha, invoke, builtin, Builtin.len_, h1, run_underlying h3, hv, goInt]
theorem sound_slice_own (hT : ∀ t i, T t = some i → i.Good P t) {t e : TypeId} {sz bytes : Nat} {x y : Operand} {τ : Key} {cs : List PV} {k : IntKind} {h : Int} {d : Nat} (ho : o.op = .slice t x none (some y) none) (hd : o.dst = some d) (ht : tyOf T t = .slice e sz bytes) (hx : evalO σ x = some (.row τ sz)) (hk : σ.mem τ = some cs)
    (hy : evalD σ y = some (.int k h)) (h0 : 0 ≤ h) (hle : h.toNat * sz ≤ cs.length) (hfM : c.M (d, 0, σ.ep) = none) (hfO : c.O (d, 0, σ.ep) = none) (hn : Next σ o a w c K { val := .row (d, 0, σ.ep) sz, al := [(0, cs.take (h.toNat * sz))], rd := [τ], rm := [τ] }) : o.wp P a w K Q := by
  obtain ⟨h1, hpos, ie, z, h3, h4, _⟩ := und_slice hT ht
  obtain ⟨v, e2, n, xs, hv, g1, g2, g3, g4, g5⟩ := row_value hs he hx hk
  obtain ⟨b, cap, hvs, g6, g7⟩ := ownsRow_value hs he g2
  have hhn : h.toNat ≤ n := by
    rw [g4] at hle
    rcases Nat.lt_or_ge n h.toNat with q | q
    · have := Nat.mul_lt_mul_of_pos_right q hpos; omega
    · exact q
  have hw : wordO σ (some y) (n : Int) = some h := by simp [wordO, hy]
  have hbd : ∀ w, (Instr.sliceBounds true n cap ((none : Option Operand).map a.eval) ((some y).map a.eval) none).run P w = .ok ((0 : Int).toNat, h.toNat, cap) w := fun w =>
    run_sliceBounds' (P := P) (lo := none) (hi := some y) (l := 0) (h := h) (len := n) (cap := cap) he true (by simp [wordO]) hw (by omega) g6 w
  have hzero : (match b with | some ad => (some (ad.add 0) : Option Addr) | none => none) = b := by cases b <;> simp [Addr.add]
  have hrun : (execOp a.eval o).run P w = .ok (.value (.slice b h.toNat cap)) w := by
    simp only [execOp, ho]
    apply run_v
    have hb2 := hbd w
    simp only [Option.map_none, Option.map_some, Int.toNat_zero] at hb2
    have hb3 : (b.map fun x => x.add (0 * sz)) = b := by cases b <;> simp [Addr.add]
    simp [Instr.sliceAt, run_underlying h1 w, hv, hvs, Instr.slice, hb2, run_sizeOf_info h3 w, h4]
    cases b <;> simp [Addr.add]
  have hown : w.ownsRow 0 e2 sz (.slice b h.toNat cap) h.toNat (xs.take (h.toNat * sz)) := by
    refine ⟨by rw [List.length_take, g2.1]; exact Nat.min_eq_left (Nat.mul_le_mul_right _ hhn), ?_⟩
    rcases g2.2 with ⟨q1, q2⟩ | ⟨g, cap', cur, q1, q2, q3, q4, q5, q6, q7⟩
    · rw [hvs] at q1; cases q1
      exact .inl ⟨by rw [show h.toNat = 0 by omega], by omega⟩
    · rw [hvs] at q1; cases q1
      refine .inr ⟨g, cap, cur, rfl, q2, q3, by omega, q5, q6, ?_⟩
      rw [← q7, List.take_take, Nat.min_eq_left (Nat.mul_le_mul_right _ hhn)]
  have hob : (Value.slice b h.toNat cap).ownBlock = c.M τ := by rw [g3, hvs]; cases b <;> rfl
  refine wp_of_run hrun (hn _ _ { K := c.K, M := upd c.M (d, 0, σ.ep) (Value.slice b h.toNat cap).ownBlock, O := upd c.O (d, 0, σ.ep) (some (.slice b h.toNat cap, e2, sz)) } (.row _ _ _ e2 (upd_same _ _ _) rfl) ?_)
  rw [hd]
  refine stepF_rowM hs d _ [τ] [τ] none e2 sz h.toNat _ _ _ hfM hfO hown ?_ ?_ ⟨rfl, rfl, rfl, Nat.le_refl _, fun _ _ _ => rfl⟩ (by simp) (fun g hg => .inl ⟨τ, by simp, ⟨cs, hk⟩, by rw [← hob]; exact hg⟩)
  · rw [List.length_take]; omega
  · intro j v hj
    simp only [List.getElem?_take] at hj ⊢
    split at hj
    · rename_i hlt; rw [if_pos hlt]; exact g5 j v hj
    · cases hj
theorem getElem?_replicate_flatten {α : Type} (n : Nat) (z : List α) (j : Nat) (v : α) (h : ((List.replicate n z).flatten)[j]? = some v) : 0 < z.length ∧ z[j % z.length]? = some v := by
  clear hs he
  induction n generalizing j with
  | zero => simp at h
  | succ n ih =>
    rw [List.replicate_succ, List.flatten_cons, List.getElem?_append] at h
    split at h
    · rename_i hlt
      exact ⟨by omega, by rw [Nat.mod_eq_of_lt hlt]; exact h⟩
    · rename_i hlt
      obtain ⟨h1, h2⟩ := ih _ h
      refine ⟨h1, ?_⟩
      rw [← h2, Nat.mod_eq_sub_mod (by omega)]
theorem sound_makeSlice (hT : ∀ t i, T t = some i → i.Good P t) {t e : TypeId} {i : TyI} {sz bytes : Nat} {x y : Operand} {k k' : IntKind} {n : Int} {d : Nat} (ho : o.op = .makeSlice t x y) (hd : o.dst = some d) (ht : tyOf T t = .slice e sz bytes) (hi : T e = some i)
    (hx : evalD σ x = some (.int k n)) (hy : evalD σ y = some (.int k' n)) (h0 : 0 ≤ n) (hb : bytes * n.toNat ≤ 281474976710656) (hm : n.toNat ≤ maxLen) (hfM : c.M (d, 0, σ.ep) = none) (hfO : c.O (d, 0, σ.ep) = none)
    (hn : Next σ o a w c K { val := .row (d, 0, σ.ep) sz, al := [(0, (List.replicate n.toNat (i.zero.map .dat)).flatten)] }) : o.wp P a w K Q := by
  obtain ⟨h1, hpos, ie, z, h3, h4, h5, h6, h7⟩ := und_slice hT ht
  obtain ⟨inf, z', f1, f2, f3, f4, f5, f6, _⟩ := (hT e i hi).info
  rw [h3] at f1; cases f1
  rw [h6] at f3; cases f3
  have hx1 := (evalD_sound he hx).int_inv
  have hy1 := (evalD_sound he hy).int_inv
  have hnn : ((n.toNat : Nat) : Int) = n := by omega
  obtain ⟨w', r1, r2, r3⟩ := run_make_full (P := P) w 0 t e ie z sz h1 h3 h6 h4 k k' n.toNat (by rw [h5]; exact hb) hm (Nat.zero_le _)
  rw [hnn] at r1
  have hrun : (execOp a.eval o).run P w = .ok (.value (.slice (some ⟨w.heap.size, 0, none⟩) n.toNat n.toNat)) w' := by
    simp only [execOp, ho, hx1, hy1]
    exact run_v _ _ _ _ r1
  have hzl : i.zero.length = sz := by rw [f5, ← f2, h4]
  refine wp_of_run hrun (hn _ _ { K := c.K, M := upd c.M (d, 0, σ.ep) (Value.slice (some ⟨w.heap.size, 0, none⟩) n.toNat n.toNat).ownBlock, O := upd c.O (d, 0, σ.ep) (some (.slice (some ⟨w.heap.size, 0, none⟩) n.toNat n.toNat, e, sz)) } (.row _ _ _ e (upd_same _ _ _) rfl) ?_)
  rw [hd]
  refine stepF_rowM hs d _ [] [] none e sz n.toNat _ _ _ hfM hfO r2 ?_ ?_ r3 (by simp) (fun g hg => .inr ?_)
  · simp [hzl]
  · intro j v hj
    obtain ⟨q1, q2⟩ := getElem?_replicate_flatten hs he _ _ _ _ hj
    rw [List.length_map, hzl] at q2 q1
    simp only [List.getElem?_map, Option.map_eq_some_iff] at q2
    obtain ⟨dv, q2, rfl⟩ := q2
    have hj' : j < n.toNat * sz := by
      have := (List.getElem?_eq_some_iff.1 hj).1
      simpa [hzl] using this
    have hzs : z.cells.size = sz := h7
    have hlt : j % sz < z.cells.size := by rw [hzs]; exact Nat.mod_lt _ hpos
    refine ⟨z.cells.getD (j % sz) undef, ?_, (f6 _ dv q2).1, .dat _ _ ((f6 _ dv q2).2 _)⟩
    simp [madeCells, hj', hzs]
    have : z.cells[j % sz]! = z.cells[j % sz] := by simp [hlt]
    simp [hlt]
  · simp [Value.ownBlock] at hg; omega
end
end Go.Proofs.YtbeafnkcimfeeaaGreatDoor.AM
