/- Data of the models. -/
import Derived.Test.YtehhgamkijkjgaaAmV
import Derived.Test.YtehhgamkijkjgaaPfMod
namespace Go.Proofs.Ytehhgamkijkjgaa.AM.TT
open Go Go.Proofs.Ytehhgamkijkjgaa.AM
abbrev I (n : Int) : DV := .int .i64 n
def er (r : Row) : List DV := [.str r.key, .str r.val]
abbrev ers (l : List Row) : List (List DV) := l.map er
def ee (r : Entry) : List DV := [.str r.key, I r.page]
abbrev ees (l : List Entry) : List (List DV) := l.map ee
def eh (r : Hold) : List DV := [I r.page, I r.left, .str r.key]
def ef (r : Ref) : List DV := [I r.slot, I r.gen]
def ec (r : Rec) : List DV := [I r.kind, .str r.low, .str r.high, .bool r.unb, I r.right, .lst 2 (ers r.rows), .lst 2 (ees r.ents), .str r.key, .str r.val, I r.page, I r.hold.page, I r.hold.left, .str r.hold.key, I r.next.slot, I r.next.gen]
abbrev ecs (l : List Rec) : List (List DV) := l.map ec
def ev (v : LView) : List DV := [.str v.low, .str v.high, .bool v.unb, I v.right, .lst 2 (ers v.rows), .bool v.gone]
def ei (v : IView) : List DV := [.str v.low, .str v.high, .bool v.unb, I v.right, .lst 2 (ees v.ents), .bool v.held, I v.hold.page, I v.hold.left, .str v.hold.key]
abbrev efs (l : List Ref) : List (List DV) := l.map ef
def epg (p : Page) : List DV := [I p.n, I p.head.slot, I p.head.gen, .lst 15 (ecs p.chain), .lst 2 (efs p.refs), .bool p.leaf] ++ ev p.rows ++ ei p.inner
def eab (a : Above) : List DV := [.bool a.some, I a.n, I a.head.slot, I a.head.gen] ++ ei a.view
def eli (l : Limits) : List DV := [I l.slots, I l.pages, I l.threads, I l.rows, I l.chain, I l.count]
def epl (p : Plan) : List DV := [I p.kind, I p.to, .str p.entry.key, I p.entry.page, I p.hold.page, I p.hold.left, .str p.hold.key]
abbrev er1 (l : List Row) : List DV := [.lst 2 (ers l)]

theorem bd_ers {l : List Row} (h : Bd (.lst 2 (ers l))) : l.length ≤ 9223372036854775807 ∧ ∀ r ∈ l, r.key.length ≤ 9223372036854775807 ∧ r.val.length ≤ 9223372036854775807 := by
  obtain ⟨h1, h2⟩ := h.lst
  refine ⟨by simpa using h1, fun r hr => ?_⟩
  have := h2 (er r) (List.mem_map_of_mem hr)
  exact ⟨(this (.str r.key) (by simp [er])).str, (this (.str r.val) (by simp [er])).str⟩
end Go.Proofs.Ytehhgamkijkjgaa.AM.TT
