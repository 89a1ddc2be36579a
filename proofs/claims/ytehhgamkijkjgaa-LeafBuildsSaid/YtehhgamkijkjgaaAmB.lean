/- The abstract machine (2): the table of types, what each operation does, contracts of calls. -/
import Derived.Test.YtehhgamkijkjgaaAmA
namespace Go.Proofs.Ytehhgamkijkjgaa.AM
open Go.RowKit
set_option linter.unusedVariables false

inductive Ty where
  | int (k : IntKind)
  | bool
  | str
  | slice (e : TypeId) (sz bytes : Nat)
  | struct (fs : List (Nat × Nat × Bool))
  | iface
  | other

/-- Kinds of cells that may be held against each other. -/
inductive EqK where
  | int (k : IntKind)
  | bool
  | str

/-- A type: what it is, how many cells, its zero's cells, and where '==' goes cell by cell, the cells' kinds. -/
structure TyI where
  ty : Ty
  size : Nat
  zero : List DV
  eqf : List EqK := []

abbrev Tab := TypeId → Option TyI

def tyOf (T : Tab) (t : TypeId) : Ty := match T t with | some i => i.ty | none => .other

def TyI.isAgg (i : TyI) : Bool := match i.ty with | .struct _ => true | _ => false

/-! ### Values -/

def asD : PV → Option DV
  | .dat d => some d
  | .acc _ sz es => some (.lst sz es)
  | _ => none

def oneD : DV → Bool
  | .agg _ | .tup _ => false
  | .raw v => v.oneCell'
  | _ => true

def oneP : PV → Bool
  | .dat d => oneD d
  | .mix _ => false
  | _ => true

/-- nil rows told as empty ones. -/
def norm1 : DV → DV
  | .nil sz => .lst sz []
  | d => d
def normD : DV → DV
  | .nil sz => .lst sz []
  | .agg cs => .agg (cs.map norm1)
  | d => d

def allD : List PV → Option (List DV)
  | [] => some []
  | v :: r => match asD v, allD r with | some d, some l => some (d :: l) | _, _ => none

def allOneD : List DV → Bool
  | [] => true
  | d :: r => oneD d && allOneD r
def allOneP : List PV → Bool
  | [] => true
  | d :: r => oneP d && allOneP r

/-- Cells as one struct. -/
def collect (cs : List PV) : PV := match allD cs with | some ds => .dat (.agg ds) | none => .mix cs

/-- A value of a type as cells. -/
def cellsT (i : TyI) (v : PV) : Option (List PV) :=
  if i.isAgg then
    match v with
    | .dat (.agg cs) => if cs.length = i.size then some (cs.map .dat) else none
    | .mix cs => if cs.length = i.size then some cs else none
    | _ => none
  else if oneP v then (if i.size = 1 then some [v] else none) else none

def setR (cs : List PV) (off : Nat) (new : List PV) : List PV := cs.take off ++ new ++ cs.drop (off + new.length)

def kindOk (k k' : IntKind) : Bool := decide (k = k')

/-- A constant's data. -/
def constD : Value → Option DV
  | .int k n => some (.int k n)
  | .bool b => some (.bool b)
  | .string s => if s.data.toList.length ≤ maxLen then some (.str s.data.toList) else none
  | .nilIface => some .nilI
  | .slice none 0 0 => some (.nil 0)
  | .pointer none => some (.raw (.pointer none))
  | .nilFunc => some (.raw .nilFunc)
  | .map none => some (.raw (.map none))
  | _ => none

def evalO (σ : St) : Operand → Option PV
  | .tmp t => σ.env t
  | .const v => (constD v).map .dat
  | .func f => some (.clo f [])
  | .global _ => none

def evalD (σ : St) (x : Operand) : Option DV := (evalO σ x).bind asD

def strLt (a b : List UInt8) : Bool := Op.bytesLess a b

/-- Cells of plain kinds that are held against each other. -/
def eqCells : List EqK → List DV → List DV → Option Bool
  | [], [], [] => some true
  | .int q :: l, .int k a :: r, .int k' b :: s => if k = q ∧ k' = q then (match eqCells l r s with | some e => some (decide (a = b) && e) | none => none) else none
  | .bool :: l, .bool a :: r, .bool b :: s => (match eqCells l r s with | some e => some (decide (a = b) && e) | none => none)
  | .str :: l, .str a :: r, .str b :: s => (match eqCells l r s with | some e => some (decide (a = b) && e) | none => none)
  | _, _, _ => none

def intBin (op : BinOp) (k : IntKind) (a b : Int) : Option DV :=
  match op with
  | .add => some (.int k (k.wrap (a + b)))
  | .sub => some (.int k (k.wrap (a - b)))
  | .mul => some (.int k (k.wrap (a * b)))
  | .quo => if b = 0 then none else some (.int k (k.wrap (a.tdiv b)))
  | .rem => if b = 0 then none else some (.int k (a.tmod b))
  | .eql => some (.bool (decide (a = b)))
  | .neq => some (.bool (!decide (a = b)))
  | .lss => some (.bool (decide (a < b)))
  | .leq => some (.bool (decide (a ≤ b)))
  | .gtr => some (.bool (decide (b < a)))
  | .geq => some (.bool (decide (b ≤ a)))
  | _ => none

def strBin (op : BinOp) (a b : List UInt8) : Option DV :=
  match op with
  | .eql => some (.bool (decide (a = b)))
  | .neq => some (.bool (!decide (a = b)))
  | .lss => some (.bool (strLt a b))
  | .leq => some (.bool (strLt a b || decide (a = b)))
  | .gtr => some (.bool (!(strLt a b || decide (a = b))))
  | .geq => some (.bool (!strLt a b))
  | _ => none

/-- What a binary operator tells of data (string + aside). -/
def binD (T : Tab) (op : BinOp) (t : TypeId) (y : Operand) : DV → DV → Option DV
  | .int k a, .int k' b => if k = k' then intBin op k a b else none
  | .str a, .str b => strBin op a b
  | .bool a, .bool b =>
    match tyOf T t, op with
    | .bool, .eql => some (.bool (decide (a = b)))
    | .bool, .neq => some (.bool (!decide (a = b)))
    | _, _ => none
  | .agg xs, .agg ys =>
    match T t with
    | some i =>
      if i.eqf.isEmpty then none else
        match op with
        | .eql => (eqCells i.eqf xs ys).map .bool
        | .neq => (eqCells i.eqf xs ys).map fun b => .bool (!b)
        | _ => none
    | none => none
  | .nilI, .nilI =>
    match tyOf T t, y, op with
    | .iface, .const _, .eql => some (.bool true)
    | .iface, .const _, .neq => some (.bool false)
    | _, _, _ => none
  | .ifc _ _, .nilI =>
    match tyOf T t, op with
    | .iface, .eql => some (.bool false)
    | .iface, .neq => some (.bool true)
    | _, _ => none
  | _, _ => none

/-- The elements of what reads as a row. -/
def rowD : DV → Option (Nat × List (List DV))
  | .lst sz es => some (sz, es)
  | .nil sz => some (sz, [])
  | _ => none

def wordO (σ : St) : Option Operand → Int → Option Int
  | none, d => some d
  | some x, _ => match evalD σ x with | some (.int _ n) => some n | _ => none

/-- A struct literal's cells: its fields laid over the zero's. -/
def layP (fs : List (Nat × Nat × Bool)) (σ : St) : List (Nat × Operand) → List PV → Option (List PV)
  | [], cs => some cs
  | (k, x) :: r, cs =>
    match fs[k]?, evalO σ x with
    | some (off, sz, ag), some v =>
      match cellsT { ty := if ag then .struct [] else .other, size := sz, zero := [] } v with
      | some new => if off + new.length ≤ cs.length then layP fs σ r (setR cs off new) else none
      | none => none
    | _, _ => none

/-- A row literal's elements. -/
def rowsP (i : TyI) (σ : St) : List (Nat × Operand) → Nat → Option (List (List DV))
  | [], _ => some []
  | (k, x) :: r, n =>
    if k = n then
      match (evalO σ x).bind (cellsT i) with
      | some cs => match allD cs, rowsP i σ r (n + 1) with
        | some ds, some l => some (ds.map norm1 :: l)
        | _, _ => none
      | none => none
    else none

def argsP (σ : St) : List Operand → Option (List PV)
  | [] => some []
  | x :: r => match evalO σ x, argsP σ r with | some v, some l => some (v :: l) | _, _ => none


/-! ### What holds of the heap -/

/-- Boxes, owned rows and known cells are as the state and the names say. -/
structure HS (σ : St) (w : World) (c : Cfg) : Prop where
  kin : ∀ b o v, c.K b o = some v → w.cell? ⟨b, o, none⟩ = some v
  box : ∀ k cs, σ.mem k = some cs → ∃ b ty arr, c.M k = some b ∧ w.heap[b]? = some (.cells arr ty (0, 0)) ∧ arr.size = cs.length ∧
    ∀ (j : Nat) (v : PV), cs[j]? = some v → ∃ x, arr[j]? = some x ∧ x.oneCell' = true ∧ RepP c v x
  mblk : ∀ k b, c.M k = some b → b < w.heap.size ∧ ∀ o, c.K b o = none
  minj : ∀ k k' b, c.M k = some b → c.M k' = some b → k = k'
  own : ∀ τ, σ.live τ = true → ∃ x e sz n xs, c.O τ = some (x, e, sz) ∧ w.ownsRow 0 e sz x n xs ∧
    ∀ g, x.ownBlock = some g → (∀ o v, c.K g o = some v → o < n * sz) ∧ ∀ k, c.M k ≠ some g
  odis : ∀ τ τ' x x' g, σ.live τ = true → σ.live τ' = true → c.O τ = some x → c.O τ' = some x' → x.1.ownBlock = some g → x'.1.ownBlock = some g → τ = τ'

/-- The blocks that an effect may write. -/
def touched (e : Eff) (c : Cfg) (b : Nat) : Prop := (∃ p ∈ e.wr, c.M p.1 = some b) ∨ ∃ τ ∈ e.use, ∃ x, c.O τ = some x ∧ x.1.ownBlock = some b

/-- One step of the world under an effect: what it leaves as it was. -/
structure StepF (σ : St) (dst : Option Nat) (e : Eff) (w w' : World) (c c' : Cfg) : Prop where
  le : c.le c'
  os : w'.os = w.os
  tape : w'.tape = w.tape
  output : w'.output = w.output
  size : w.heap.size ≤ w'.heap.size
  blk : ∀ b, b < w.heap.size → ¬ touched e c b → w'.heap[b]? = w.heap[b]?
  kn : ∀ b o, b < w.heap.size → ¬ touched e c b → c'.K b o = c.K b o
  mn : ∀ k b, c'.M k = some b → c.M k = some b ∨ ((∃ i cs, (i, cs) ∈ e.al ∧ k = (dst.getD 0, i, σ.ep)) ∧ w.heap.size ≤ b)
  on : ∀ τ x, c'.O τ = some x → c.O τ = some x ∨ ((∃ i ∈ e.nw, τ = (dst.getD 0, i, σ.ep)) ∧ ∀ g, x.1.ownBlock = some g → w.heap.size ≤ g ∨ touched e c g)
  hs : HS (e.app dst σ) w' c'

def RepPs (c : Cfg) (vs : List PV) (xs : Array Value) : Prop := xs.size = vs.length ∧ ∀ (j : Nat) (v : PV), vs[j]? = some v → RepP c v (xs.getD j undef)
def RepDs (K : Known) (vs : List DV) (xs : Array Value) : Prop := xs.size = vs.length ∧ ∀ (j : Nat) (v : DV), vs[j]? = some v → RepD K v (xs.getD j undef)

/-- A function that is entered when it is called. -/
def EnterOk (P : Program) (g : FuncId) : Prop := ∀ (args : Array Value) (w : World), (callFunc g args).run P w = .ok (.enter g args) w

/-- Names of this epoch and place, and of later epochs, are free. -/
def FreshAt (c : Cfg) (d ep : Nat) : Prop := (∀ i, c.M (d, i, ep) = none ∧ c.O (d, i, ep) = none) ∧ ∀ k : Key, ep < k.2.2 → c.M k = none ∧ c.O k = none

/-- A call, by its effect, in every state that holds what it reads. -/
def CallE (P : Program) (g : FuncId) (args : List PV) (rdm : List (Key × List PV)) (d ep : Nat) (e : Eff) : Prop :=
  EnterOk P g ∧ e.rd = rdm.map (·.1) ∧
  ∀ (σ : St) (w : World) (c : Cfg) (xs : Array Value), σ.ep = ep → (∀ p ∈ rdm, σ.mem p.1 = some p.2) → (∀ τ ∈ e.use, σ.live τ = true) → HS σ w c →
    FreshAt c d ep → RepPs c args xs →
    Calls P g xs w fun en w' => ∃ v c', en = .returned v ∧ RepP c' e.val v ∧ StepF σ (some d) e w w' c c'

def CallK (P : Program) (g : FuncId) (args : List PV) (σ : St) (dst : Option Nat) (K : Eff → Prop) : Prop :=
  ∃ d rdm e, dst = some d ∧ (∀ p ∈ rdm, σ.mem p.1 = some p.2) ∧ (∀ τ ∈ e.use, σ.live τ = true) ∧ CallE P g args rdm d σ.ep e ∧ K e

/-- A call that only computes: the contract of a pure function. -/
def CallsD (P : Program) (g : FuncId) (args : List DV) (r : DV) : Prop :=
  EnterOk P g ∧ ∀ (K : Known) (w : World) (xs : Array Value), (∀ b o v, K b o = some v → w.cell? ⟨b, o, none⟩ = some v) → RepDs K args xs →
    Calls P g xs w fun en w' => ∃ v K', en = .returned v ∧ RepD K' r v ∧ (∀ b o v, K b o = some v → K' b o = some v) ∧
      (∀ b o, b < w.heap.size → K' b o = K b o) ∧ (∀ b o v, K' b o = some v → w'.cell? ⟨b, o, none⟩ = some v) ∧ Below w.heap.size w w'

/-! ### Operations -/

def unitP : PV := .dat (.tup [])

def isNilRow : Operand → Bool
  | .const (.slice none 0 0) => true
  | _ => false

/-- A bound that holds of itself: a premise for the prover, a part of what is told. -/
def gate (b : Bool) (p q : Prop) : Prop := match b with | true => p → q | false => p ∧ q

/-- What an operation comes to, before memory is looked at. -/
inductive Out where
  | no
  | eff (e : Eff)
  | gated (p : Prop) (e : Eff)
  | need (p : Prop) (e : Eff)
  | two (t : Bool) (x y : Option PV)
  | row (p : List DV → Prop) (e : List DV → Eff)
  | byte (p : UInt8 → Prop) (e : UInt8 → Eff)
  | box (k : Key) (f : List PV → Option Eff)
  | own (τ : Key) (p : Prop) (e : Eff)
  | call (f : FuncId) (args : List PV)

def optK (x : Option PV) (K : Eff → Prop) : Prop := match x with | some v => K { val := v } | none => False

def Out.holds (P : Program) (g : Bool) (σ : St) (dst : Option Nat) (K : Eff → Prop) : Out → Prop
  | .no => False
  | .eff e => K e
  | .gated p e => gate g p (K e)
  | .need p e => p ∧ K e
  | .two t x y => (t = true → optK x K) ∧ (t = false → optK y K)
  | .row p e => ∃ cs, p cs ∧ K (e cs)
  | .byte p e => ∃ b, p b ∧ K (e b)
  | .box k f => match σ.mem k with | some cs => (match f cs with | some e => K { e with rd := [k] } | none => False) | none => False
  | .own τ p e => σ.live τ = true ∧ p ∧ K { e with use := [τ] }
  | .call f args => CallK P f args σ dst K

def loadOut (i : TyI) (off : Nat) (cs : List PV) : Option Eff :=
  if i.isAgg then (if off + i.size ≤ cs.length then some { val := collect ((cs.drop off).take i.size) } else none)
  else match cs[off]? with | some v => some { val := v } | none => none

def storeOut (k : Key) (off : Nat) (new : List PV) (cs : List PV) : Option Eff :=
  if off + new.length ≤ cs.length then some { val := unitP, wr := [(k, setR cs off new)] } else none

/-- What a builtin comes to. -/
def builtinOut (T : Tab) (dst : Option Nat) (ep : Nat) (types : Array TypeId) (b : Builtin) (args : List PV) : Out :=
  match b, args with
  | .len, [v] =>
    match asD v, (types[0]?).map (tyOf T) with
    | some (.str s), some .str => .gated (s.length ≤ maxLen) { val := .dat (.int .i64 s.length) }
    | some d, some (.slice _ _ _) => match rowD d with | some (_, es) => .gated (es.length ≤ maxLen) { val := .dat (.int .i64 es.length) } | none => .no
    | _, _ => .no
  | .min, [x, y] =>
    match asD x, asD y with
    | some (.int k a), some (.int k' b) => if k = k' then .eff { val := .dat (.int k (if b < a then b else a)) } else .no
    | _, _ => .no
  | .max, [x, y] =>
    match asD x, asD y with
    | some (.int k a), some (.int k' b) => if k = k' then .eff { val := .dat (.int k (if a < b then b else a)) } else .no
    | _, _ => .no
  | .append, [x, y] =>
    match dst, types.toList, (asD y).bind rowD with
    | some d, [t, t'], some (sy, ys) =>
      if t = t' then
        match tyOf T t with
        | .slice _ sz bytes =>
          if sy = sz ∨ ys = [] then
            match x with
            | .acc τ sx xs =>
              if sx = sz then .own τ ((xs.length + ys.length) * bytes ≤ 140737488355328 ∧ xs.length + ys.length ≤ maxLen) { val := .acc (d, 0, ep) sz (xs ++ ys), nw := [0] }
              else .no
            | .dat (.nil _) => .need (ys.length * bytes ≤ 140737488355328 ∧ ys.length ≤ maxLen) { val := .acc (d, 0, ep) sz ys, nw := [0] }
            | _ => .no
          else .no
        | _ => .no
      else .no
    | _, _, _ => .no
  | _, _ => .no

/-- What one operation comes to. -/
def opOut (T : Tab) (o : Oper) (σ : St) : Out :=
  match o.op with
  | .move x => match evalO σ x with | some v => .eff { val := v } | none => .no
  | .assign x =>
    if isNilRow x then
      match o.dst, tyOf T o.type with
      | some d, .slice _ sz _ => .eff { val := .acc (d, 0, σ.ep) sz [], nw := [0] }
      | _, _ => .no
    else match evalO σ x with | some v => .eff { val := v } | none => .no
  | .pick c a b =>
    match evalO σ c with
    | some (.dat (.bool t)) => .two t (evalO σ a) (evalO σ b)
    | _ => .no
  | .alloc t =>
    match o.dst, T t with
    | some d, some i => .eff { val := .ptr (d, 0, σ.ep) 0, al := [(0, i.zero.map .dat)] }
    | _, _ => .no
  | .box t x =>
    match o.dst, T t with
    | some d, some i =>
      match (evalO σ x).bind (cellsT i) with
      | some cs => .eff { val := .ptr (d, 0, σ.ep) 0, al := [(0, cs)] }
      | none => .no
    | _, _ => .no
  | .build t parts =>
    match T t with
    | some i =>
      match i.ty with
      | .struct fs =>
        match layP fs σ parts.toList (i.zero.map .dat) with
        | some cs => .eff { val := collect cs }
        | none => .no
      | _ => .no
    | none => .no
  | .buildSlice t n parts =>
    match o.dst, tyOf T t with
    | some d, .slice e sz _ =>
      match T e with
      | some i =>
        if i.size = sz ∧ parts.size = n ∧ n * sz ≤ 2 ^ 24 then
          match rowsP i σ parts.toList 0 with
          | some es => .eff { val := .acc (d, 0, σ.ep) sz es, nw := [0] }
          | none => .no
        else .no
      | none => .no
    | _, _ => .no
  | .load t a =>
    match T t, evalO σ a with
    | some i, some (.ptr k off) => .box k (loadOut i off)
    | some i, some (.dat (.ip cs off)) =>
      if i.isAgg then (if off + i.size ≤ cs.length then .eff { val := .dat (.agg ((cs.drop off).take i.size)) } else .no)
      else match cs[off]? with | some v => .eff { val := .dat v } | none => .no
    | _, _ => .no
  | .store t a x =>
    match o.dst, T t, evalO σ a with
    | none, some i, some (.ptr k off) =>
      match (evalO σ x).bind (cellsT i) with
      | some new => .box k (storeOut k off new)
      | none => .no
    | _, _, _ => .no
  | .binOp op t x y _ =>
    match evalD σ x, evalD σ y with
    | some a, some b => match binD T op t y a b with | some d => .eff { val := .dat d } | none => .no
    | _, _ => .no
  | .unOp .not _ x => match evalD σ x with | some (.bool b) => .eff { val := .dat (.bool (!b)) } | _ => .no
  | .fieldAddr t x f =>
    match tyOf T t, evalO σ x with
    | .struct fs, some (.ptr k off) => match fs[f]? with | some p => .eff { val := .ptr k (off + p.1) } | none => .no
    | .struct fs, some (.dat (.ip cs off)) => match fs[f]? with | some p => .eff { val := .dat (.ip cs (off + p.1)) } | none => .no
    | _, _ => .no
  | .field t x f =>
    match tyOf T t, evalD σ x with
    | .struct fs, some (.agg cs) =>
      match fs[f]? with
      | some (off, sz, ag) =>
        if ag then (if off + sz ≤ cs.length then .eff { val := .dat (.agg ((cs.drop off).take sz)) } else .no)
        else match cs[off]? with | some d => .eff { val := .dat d } | none => .no
      | none => .no
    | _, _ => .no
  | .indexAddr t x i =>
    match tyOf T t, evalD σ x, evalD σ i with
    | .slice _ sz _, some d, some (.int _ n) =>
      match d with
      | .lst sz' es => if sz' = sz then .row (fun cs => 0 ≤ n ∧ es[n.toNat]? = some cs) (fun cs => { val := .dat (.ip cs 0) }) else .no
      | _ => .no
    | _, _, _ => .no
  | .index t x i =>
    match tyOf T t, evalD σ x, evalD σ i with
    | .str, some (.str s), some (.int _ n) => .byte (fun b => 0 ≤ n ∧ s[n.toNat]? = some b) (fun b => { val := .dat (.int .u8 b.toNat) })
    | _, _, _ => .no
  | .extract x i => match evalO σ x with | some (.dat (.tup vs)) => (match vs[i]? with | some d => .eff { val := .dat d } | none => .no) | _ => .no
  | .slice t x lo hi none =>
    match tyOf T t, evalD σ x with
    | .str, some (.str s) =>
      match wordO σ lo 0, wordO σ hi s.length with
      | some l, some h => .need (0 ≤ l ∧ l ≤ h ∧ h ≤ s.length) { val := .dat (.str ((s.take h.toNat).drop l.toNat)) }
      | _, _ => .no
    | .slice _ sz _, some d =>
      match d with
      | .lst sz' es =>
        if sz' = sz then
          match wordO σ lo 0, wordO σ hi es.length with
          | some l, some h => .need (0 ≤ l ∧ l ≤ h ∧ h ≤ es.length) { val := .dat (.lst sz ((es.take h.toNat).drop l.toNat)) }
          | _, _ => .no
        else .no
      | _ => .no
    | _, _ => .no
  | .makeInterface t x =>
    match T t, evalO σ x with
    | some i, some (.dat d) => match i.ty with | .int _ | .str | .bool => .eff { val := .dat (.ifc t d) } | _ => .no
    | _, _ => .no
  | .makeFunc (.func f) first cap => if first.size = 0 then match argsP σ cap.toList with | some l => .eff { val := .clo f l } | none => .no else .no
  | .call c =>
    match c.callee with
    | .value f => match argsP σ c.args.toList, evalO σ f with | some args, some (.clo f' caps) => .call f' (args ++ caps) | _, _ => .no
    | .builtin b => match argsP σ c.args.toList with | some args => builtinOut T o.dst σ.ep c.argTypes b args | none => .no
    | .invoke _ _ => .no
  | _ => .no

/-- What one operation does, as a condition on what may come behind it. -/
def OpK (P : Program) (T : Tab) (g : Bool) (o : Oper) (σ : St) (K : Eff → Prop) : Prop := (opOut T o σ).holds P g σ o.dst K

end Go.Proofs.Ytehhgamkijkjgaa.AM
