/- The abstract machine (1): data, what a value stands for, states and effects. -/
import Derived.WalkKit
import Derived.Below
import Derived.KernelRfl
namespace Go.Proofs.Ytehhgamkijkjgaa.AM
open Go.RowKit
set_option linter.unusedVariables false

/-- Data: what cannot change any more. -/
inductive DV where
  | int (k : IntKind) (n : Int)
  | bool (b : Bool)
  | str (s : List UInt8)
  | nil (sz : Nat)
  | lst (sz : Nat) (es : List (List DV))
  | nilI
  | ifc (t : TypeId) (d : DV)
  | agg (cs : List DV)
  | tup (cs : List DV)
  | ip (cs : List DV) (off : Nat)
  | raw (v : Value)

/-- A name of a box or of an owned row: slot, index, epoch. -/
abbrev Key := Nat × Nat × Nat

inductive PV where
  | dat (d : DV)
  | acc (τ : Key) (sz : Nat) (es : List (List DV))
  | ptr (k : Key) (off : Nat)
  | clo (f : FuncId) (cap : List PV)
  | mix (cs : List PV)

abbrev Known := Nat → Nat → Option Value

/-- What data a value is, by the cells that are known for good. -/
inductive RepD (K : Known) : DV → Value → Prop where
  | int (k : IntKind) (n : Int) : RepD K (.int k n) (.int k n)
  | bool (b : Bool) : RepD K (.bool b) (.bool b)
  | str (l : List UInt8) (h : l.length ≤ maxLen) : RepD K (.str l) (.string ⟨l.toArray⟩)
  | nil (sz : Nat) : RepD K (.nil sz) (.slice none 0 0)
  | nils (sz : Nat) : RepD K (.lst sz []) (.slice none 0 0)
  | lst (sz : Nat) (es : List (List DV)) (b o cap : Nat) (f : Nat → Nat → Value) (h1 : es.length ≤ cap) (h2 : cap ≤ maxLen) (hs : ∀ e ∈ es, e.length = sz)
      (hk : ∀ (i : Nat) (e : List DV), es[i]? = some e → ∀ (j : Nat) (d : DV), e[j]? = some d → K b (o + i * sz + j) = some (f i j))
      (ho : ∀ (i : Nat) (e : List DV), es[i]? = some e → ∀ (j : Nat) (d : DV), e[j]? = some d → (f i j).oneCell' = true)
      (hr : ∀ (i : Nat) (e : List DV), es[i]? = some e → ∀ (j : Nat) (d : DV), e[j]? = some d → RepD K d (f i j)) :
      RepD K (.lst sz es) (.slice (some ⟨b, o, Option.none⟩) es.length cap)
  | emp (sz : Nat) (a : Addr) : RepD K (.lst sz []) (.slice (some a) 0 0)
  | nilI : RepD K .nilI .nilIface
  | ifc (t : TypeId) (d : DV) (v : Value) (h : RepD K d v) : RepD K (.ifc t d) (.iface t v)
  | agg (cs : List DV) (vs : Array Value) (hl : vs.size = cs.length) (ho : ∀ (j : Nat) (d : DV), cs[j]? = some d → (vs.getD j undef).oneCell' = true)
      (h : ∀ (j : Nat) (d : DV), cs[j]? = some d → RepD K d (vs.getD j undef)) : RepD K (.agg cs) (.agg vs)
  | tup (cs : List DV) (vs : Array Value) (hl : vs.size = cs.length)
      (h : ∀ (j : Nat) (d : DV), cs[j]? = some d → RepD K d (vs.getD j undef)) : RepD K (.tup cs) (.tuple vs)
  | ip (cs : List DV) (off b o : Nat) (f : Nat → Value) (hk : ∀ (j : Nat) (d : DV), cs[j]? = some d → K b (o + j) = some (f j))
      (ho : ∀ (j : Nat) (d : DV), cs[j]? = some d → (f j).oneCell' = true)
      (hr : ∀ (j : Nat) (d : DV), cs[j]? = some d → RepD K d (f j)) : RepD K (.ip cs off) (.pointer (some ⟨b, o + off, Option.none⟩))
  | raw (v : Value) : RepD K (.raw v) v

theorem RepD.mono {K K' : Known} (h : ∀ b o v, K b o = some v → K' b o = some v) {d : DV} {v : Value} (r : RepD K d v) : RepD K' d v := by
  induction r with
  | int => exact .int _ _
  | bool => exact .bool _
  | str l h => exact .str l h
  | nil => exact .nil _
  | nils => exact .nils _
  | emp sz a => exact .emp sz a
  | lst sz es b o cap f h1 h2 hs hk ho hr ih => exact .lst sz es b o cap f h1 h2 hs (fun i e he j d hd => h _ _ _ (hk i e he j d hd)) ho ih
  | nilI => exact .nilI
  | ifc t d v _ ih => exact .ifc t d v ih
  | agg cs vs hl ho _ ih => exact .agg cs vs hl ho ih
  | tup cs vs hl _ ih => exact .tup cs vs hl ih
  | ip cs off b o f hk ho _ ih => exact .ip cs off b o f (fun j d hd => h _ _ _ (hk j d hd)) ho ih
  | raw v => exact .raw v

/-- What the abstract machine's names stand for. -/
structure Cfg where
  K : Known
  M : Key → Option Nat
  O : Key → Option (Value × TypeId × Nat)

structure Cfg.le (c c' : Cfg) : Prop where
  K : ∀ b o v, c.K b o = some v → c'.K b o = some v
  M : ∀ k b, c.M k = some b → c'.M k = some b
  O : ∀ k x, c.O k = some x → c'.O k = some x

theorem Cfg.le.refl (c : Cfg) : c.le c := ⟨fun _ _ _ h => h, fun _ _ h => h, fun _ _ h => h⟩
theorem Cfg.le.trans {a b c : Cfg} (h : a.le b) (k : b.le c) : a.le c :=
  ⟨fun _ _ _ x => k.K _ _ _ (h.K _ _ _ x), fun _ _ x => k.M _ _ (h.M _ _ x), fun _ _ x => k.O _ _ (h.O _ _ x)⟩

inductive RepP (c : Cfg) : PV → Value → Prop where
  | dat (d : DV) (x : Value) (h : RepD c.K d x) : RepP c (.dat d) x
  | acc (τ : Key) (sz : Nat) (es : List (List DV)) (x : Value) (e : TypeId) (ho : c.O τ = some (x, e, sz)) (h : RepD c.K (.lst sz es) x) : RepP c (.acc τ sz es) x
  | ptr (k : Key) (off b : Nat) (h : c.M k = some b) : RepP c (.ptr k off) (.pointer (some ⟨b, off, Option.none⟩))
  | clo (f : FuncId) (cap : List PV) (xs : Array Value) (hl : xs.size = cap.length) (h : ∀ (j : Nat) (v : PV), cap[j]? = some v → RepP c v (xs.getD j undef)) :
      RepP c (.clo f cap) (.func (.func f) #[] xs)
  | mix (cs : List PV) (vs : Array Value) (hl : vs.size = cs.length) (ho : ∀ (j : Nat) (d : PV), cs[j]? = some d → (vs.getD j undef).oneCell' = true)
      (h : ∀ (j : Nat) (d : PV), cs[j]? = some d → RepP c d (vs.getD j undef)) : RepP c (.mix cs) (.agg vs)

theorem RepP.mono {c c' : Cfg} (h : c.le c') {d : PV} {v : Value} (r : RepP c d v) : RepP c' d v := by
  induction r with
  | dat d x r => exact .dat d x (r.mono h.K)
  | acc τ sz es x e ho r => exact .acc τ sz es x e (h.O _ _ ho) (r.mono h.K)
  | ptr k off b hm => exact .ptr k off b (h.M _ _ hm)
  | clo f cap xs hl _ ih => exact .clo f cap xs hl ih
  | mix cs vs hl ho _ ih => exact .mix cs vs hl ho ih

/-- A state: what is known of temporaries, boxes, owned rows; and the epoch. -/
structure St where
  env : Nat → Option PV
  mem : Key → Option (List PV)
  live : Key → Bool
  ep : Nat

/-- What one operation does. -/
structure Eff where
  val : PV
  al : List (Nat × List PV) := []
  wr : List (Key × List PV) := []
  rd : List Key := []
  use : List Key := []
  nw : List Nat := []

def upd {α β : Type} [DecidableEq α] (f : α → β) (a : α) (b : β) : α → β := fun x => if x = a then b else f x

@[simp] theorem upd_same {α β : Type} [DecidableEq α] (f : α → β) (a : α) (b : β) : upd f a b a = b := by simp [upd]
theorem upd_ne {α β : Type} [DecidableEq α] (f : α → β) {a x : α} (b : β) (h : x ≠ a) : upd f a b x = f x := by simp [upd, h]

def wrMem : List (Key × List PV) → (Key → Option (List PV)) → Key → Option (List PV)
  | [], m => m
  | (k, cs) :: r, m => wrMem r (upd m k (some cs))

def setLive (v : Bool) : List Key → (Key → Bool) → Key → Bool
  | [], l => l
  | k :: r, l => setLive v r (upd l k v)

def Eff.alKeys (d ep : Nat) (e : Eff) : List (Key × List PV) := e.al.map fun (i, cs) => ((d, i, ep), cs)
def Eff.nwKeys (d ep : Nat) (e : Eff) : List Key := e.nw.map fun i => (d, i, ep)

/-- The state behind an operation of destination 'dst'. -/
def Eff.app (dst : Option Nat) (e : Eff) (σ : St) : St :=
  { env := match dst with | some d => upd σ.env d (some e.val) | none => σ.env
    mem := wrMem e.wr (wrMem (e.alKeys (dst.getD 0) σ.ep) σ.mem)
    live := setLive true (e.nwKeys (dst.getD 0) σ.ep) (setLive false e.use σ.live)
    ep := σ.ep }

end Go.Proofs.Ytehhgamkijkjgaa.AM
