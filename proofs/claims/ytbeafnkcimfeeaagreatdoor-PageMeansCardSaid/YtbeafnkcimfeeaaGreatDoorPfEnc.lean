/- Contracts of the functions and their models, by the abstract machine. -/
import Derived.Test.YtbeafnkcimfeeaaGreatDoorAm3
import Derived.Test.YtbeafnkcimfeeaaGreatDoorPfMod
/- Data of the models. -/
namespace Go.Proofs.YtbeafnkcimfeeaaGreatDoor.AM.TT
set_option linter.unusedVariables false
set_option linter.unusedSimpArgs false
open Go Go.Proofs.YtbeafnkcimfeeaaGreatDoor.AM
abbrev I (n : Int) : DV := .int .i64 n
def er (r : Row) : List DV := [.str r.key, .str r.val]
abbrev ers (l : List Row) : List (List DV) := l.map er
def ee (r : Entry) : List DV := [.str r.key, I r.page]
abbrev ees (l : List Entry) : List (List DV) := l.map ee
def eh (r : Hold) : List DV := [I r.page, I r.left, .str r.key]
def ef (r : Ref) : List DV := [I r.slot, I r.gen]
def ec (r : Rec) : List DV := [I r.kind, .str r.low, .str r.high, .bool r.unb, I r.right, .lst 2 (ers r.rows), .lst 2 (ees r.ents), .str r.key, .str r.val, I r.page, I r.hold.page, I r.hold.left, .str r.hold.key, I r.next.slot, I r.next.gen]
abbrev ecs (l : List Rec) : List (List DV) := l.map ec
def ev (v : LView) : List DV := [.str v.low, .str v.high, .bool v.unb, I v.right, .lst 2 (ers v.rows), .bool v.gone]
def ei (v : IView) : List DV := [.str v.low, .str v.high, .bool v.unb, I v.right, .lst 2 (ees v.ents), .bool v.held, I v.hold.page, I v.hold.left, .str v.hold.key]
abbrev efs (l : List Ref) : List (List DV) := l.map ef
def epg (p : Page) : List DV := [I p.n, I p.head.slot, I p.head.gen, .lst 15 (ecs p.chain), .lst 2 (efs p.refs), .bool p.leaf] ++ ev p.rows ++ ei p.inner
def eab (a : Above) : List DV := [.bool a.some, I a.n, I a.head.slot, I a.head.gen] ++ ei a.view
def eli (l : Limits) : List DV := [I l.slots, I l.pages, I l.threads, I l.rows, I l.chain, I l.count]
def epl (p : Plan) : List DV := [I p.kind, I p.to, .str p.entry.key, I p.entry.page, I p.hold.page, I p.hold.left, .str p.hold.key]
abbrev er1 (l : List Row) : List DV := [.lst 2 (ers l)]
theorem bd_ers {l : List Row} (h : Bd (.lst 2 (ers l))) : l.length ≤ 9223372036854775807 ∧ ∀ r ∈ l, r.key.length ≤ 9223372036854775807 ∧ r.val.length ≤ 9223372036854775807 := by
  obtain ⟨h1, h2⟩ := h.lst
  refine ⟨by simpa using h1, fun r hr => ?_⟩
  have := h2 (er r) (List.mem_map_of_mem hr)
  exact ⟨(this (.str r.key) (by simp [er])).str, (this (.str r.val) (by simp [er])).str⟩
theorem nfA : (∀ (cs : List PV) (off : Nat) (new : List PV), setR cs off new = cs.take off ++ new ++ cs.drop (off + new.length)) ∧
    (∀ cs : List PV, collect false cs = match allD cs with | some ds => .dat (.agg ds) | none => .mix cs) ∧ (∀ cs : List PV, collect true cs = .mix cs) ∧
    (allD [] = some []) ∧ (∀ (v : PV) (r : List PV), allD (v :: r) = match asD v, allD r with | some d, some l => some (d :: l) | _, _ => none) ∧
    (∀ d : DV, asD (.dat d) = some d) ∧ (∀ (k : Key) (n : Nat) (l : List (List DV)), asD (.acc k n l) = some (.lst n l)) ∧ (∀ (k : Key) (n : Nat), asD (.ptr k n) = none) ∧ (∀ (f : FuncId) (m l : List PV), asD (.clo f m l) = none) ∧ (∀ (k : Key) (n : Nat), asD (.row k n) = none) ∧ (∀ (t : TypeId) (v : PV), asD (.ifp t v) = none) ∧ (∀ l : List PV, asD (.tup l) = none) ∧ (asD .any = none) ∧ (∀ l : List PV, asD (.mix l) = (allD1 l).map .agg) ∧
    (allD1 [] = some []) ∧ (∀ (v : PV) (r : List PV), allD1 (v :: r) = match asD1 v, allD1 r with | some d, some l => some (d :: l) | _, _ => none) ∧ (∀ d : DV, asD1 (.dat d) = some d) ∧ (∀ (k : Key) (n : Nat) (l : List (List DV)), asD1 (.acc k n l) = some (.lst n l)) ∧ (∀ (k : Key) (n : Nat), asD1 (.ptr k n) = none) ∧ (∀ (k : Key) (n : Nat), asD1 (.row k n) = none) ∧
    (∀ d : DV, oneP (.dat d) = oneD d) ∧ (∀ (k : Key) (n : Nat) (l : List (List DV)), oneP (.acc k n l) = true) ∧ (∀ (k : Key) (n : Nat), oneP (.row k n) = true) ∧ (∀ (k : Key) (n : Nat), oneP (.ptr k n) = true) ∧
    (∀ (i : TyI) (v : PV), cellsT i v = if i.isAgg then (match v with | .dat (.agg cs) => if cs.length = i.size then some (cs.map .dat) else none | .mix cs => if cs.length = i.size then some cs else none | _ => none) else if oneP v then (if i.size = 1 then some [v] else none) else none) ∧
    (∀ n : Nat, norm1 (.nil n) = .lst n []) ∧ (∀ (k : IntKind) (n : Int), norm1 (.int k n) = .int k n) ∧ (∀ b : Bool, norm1 (.bool b) = .bool b) ∧ (∀ s : List UInt8, norm1 (.str s) = .str s) ∧
    (∀ (n : Nat) (l : List (List DV)), norm1 (.lst n l) = .lst n l) ∧ (norm1 .nilI = .nilI) ∧ (∀ (t : TypeId) (d : DV), norm1 (.ifc t d) = .ifc t d) ∧ (∀ l : List DV, norm1 (.agg l) = .agg l) ∧ (∀ l : List DV, norm1 (.tup l) = .tup l) ∧ (∀ v : Value, norm1 (.raw v) = .raw v) ∧ (∀ (l : List DV) (n : Nat), norm1 (.ip l n) = .ip l n) ∧
    (∀ {α β : Type} (f : α → β) (a : α) (l : List α), List.map f (a :: l) = f a :: List.map f l) ∧ (∀ {α β : Type} (f : α → β), List.map f [] = []) ∧
    (∀ {α : Type} (n : Nat) (a : α) (l : List α), (a :: l).take (n + 1) = a :: l.take n) ∧ (∀ {α : Type} (l : List α), l.take 0 = []) ∧ (∀ {α : Type} (n : Nat), ([] : List α).take n = []) ∧
    (∀ {α : Type} (n : Nat) (a : α) (l : List α), (a :: l).drop (n + 1) = l.drop n) ∧ (∀ {α : Type} (l : List α), l.drop 0 = l) ∧ (∀ {α : Type} (n : Nat), ([] : List α).drop n = []) ∧
    (∀ {α : Type} (a : α) (l r : List α), a :: l ++ r = a :: (l ++ r)) ∧ (∀ {α : Type} (l : List α), [] ++ l = l) ∧ (∀ {α : Type} (l : List α), l ++ [] = l) ∧
    (∀ {α : Type} (a : α) (l : List α), (a :: l).length = l.length + 1) ∧ (∀ {α : Type}, ([] : List α).length = 0) ∧
    (∀ n : Nat, 0 + n = n) ∧ (∀ n : Nat, n + 0 = n) ∧ (Int.toNat 0 = 0) ∧ (∀ n : Nat, ((n : Int)).toNat = n) ∧ (∀ {α β : Type} (f : α → β) (l : List α), (List.map f l).length = l.length) ∧
    (∀ {α β : Type} (f : α → β) (n : Nat) (l : List α), (List.map f l).take n = List.map f (l.take n)) ∧ (∀ {α β : Type} (f : α → β) (n : Nat) (l : List α), (List.map f l).drop n = List.map f (l.drop n)) ∧ (∀ {α : Type} (l : List α), l.take l.length = l) ∧
    (∀ r, er r = [.str r.key, .str r.val]) ∧ (∀ r, ee r = [.str r.key, I r.page]) ∧ (∀ r, eh r = [I r.page, I r.left, .str r.key]) ∧ (∀ r, ef r = [I r.slot, I r.gen]) ∧
    (∀ r, ec r = [I r.kind, .str r.low, .str r.high, .bool r.unb, I r.right, .lst 2 (ers r.rows), .lst 2 (ees r.ents), .str r.key, .str r.val, I r.page, I r.hold.page, I r.hold.left, .str r.hold.key, I r.next.slot, I r.next.gen]) ∧
    (∀ v, ev v = [.str v.low, .str v.high, .bool v.unb, I v.right, .lst 2 (ers v.rows), .bool v.gone]) ∧
    (∀ v, ei v = [.str v.low, .str v.high, .bool v.unb, I v.right, .lst 2 (ees v.ents), .bool v.held, I v.hold.page, I v.hold.left, .str v.hold.key]) ∧
    (∀ p, epg p = [I p.n, I p.head.slot, I p.head.gen, .lst 15 (ecs p.chain), .lst 2 (efs p.refs), .bool p.leaf] ++ ev p.rows ++ ei p.inner) ∧
    (∀ a, eab a = [.bool a.some, I a.n, I a.head.slot, I a.head.gen] ++ ei a.view) ∧
    (∀ l, eli l = [I l.slots, I l.pages, I l.threads, I l.rows, I l.chain, I l.count]) ∧
    (∀ p, epl p = [I p.kind, I p.to, .str p.entry.key, I p.entry.page, I p.hold.page, I p.hold.left, .str p.hold.key]) := by
  refine ⟨fun _ _ _ => rfl, fun _ => rfl, fun _ => rfl, rfl, fun _ _ => rfl, fun _ => rfl, fun _ _ _ => rfl, fun _ _ => rfl, fun _ _ _ => rfl, fun _ _ => rfl, fun _ _ => rfl, fun _ => rfl, rfl, fun _ => rfl, rfl, fun _ _ => rfl, fun _ => rfl, fun _ _ _ => rfl, fun _ _ => rfl, fun _ _ => rfl, fun _ => rfl, fun _ _ _ => rfl, fun _ _ => rfl, fun _ _ => rfl, fun _ _ => rfl, fun _ => rfl, fun _ _ => rfl, fun _ => rfl, fun _ => rfl, fun _ _ => rfl, rfl, fun _ _ => rfl, fun _ => rfl, fun _ => rfl, fun _ => rfl, fun _ _ => rfl, ?_⟩
  simp [er, ee, eh, ef, ec, ev, ei, epg, eab, eli, epl]
end Go.Proofs.YtbeafnkcimfeeaaGreatDoor.AM.TT
