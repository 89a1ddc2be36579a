/- Contracts of the functions and their models, by the abstract machine. -/
import Derived.Test.YtbeafnkcimfeeaaGreatDoorPfMod3
/- Models (4): cases of plans. -/
namespace Go.Proofs.YtbeafnkcimfeeaaGreatDoor.AM.TT
set_option linter.unusedVariables false
set_option linter.unusedSimpArgs false
open Go Go.Proofs.YtbeafnkcimfeeaaGreatDoor.AM
structure Case where
  n : Int
  chain : List Rec
  above : List Rec
  some : Bool
  key : Str
  limits : Limits
  writes : Bool
def ecase (c : Case) : List DV := [I c.n, .lst 15 (ecs c.chain), .lst 15 (ecs c.above), .bool c.some, .str c.key, I c.limits.slots, I c.limits.pages, I c.limits.threads, I c.limits.rows, I c.limits.chain, I c.limits.count, .bool c.writes]
def ofP (n : Int) (h : Ref) (l : List Rec) (rf : List Ref) : Except Int Page :=
  if (match l[l.length - 1]? with | some b => decide (b.kind = 1) | none => false) then
    (match foldL l with | .ok w => .ok ⟨n, h, l, rf, true, w, noIView⟩ | .error c => .error c)
  else (match foldI l with | .ok w => .ok ⟨n, h, l, rf, false, noView, w⟩ | .error c => .error c)
theorem goUpI_len {l : List Rec} {w : IView} : ∀ (n : Nat) (v : IView), n ≤ l.length → goUpI l n v = some w → w.ents.length ≤ v.ents.length + szI l n
  | 0, v, _, h => by simp [goUpI] at h; subst h; simp [szI]
  | n + 1, v, hn, h => by
    have hx : l[n]? = some (l.getD n default) := by simp [List.getD, List.getElem?_eq_getElem (show n < l.length by omega)]
    rw [goUpI] at h
    split at h
    · have h1 := goUpI_len n _ (by omega) h
      have h2 := upI_len v (l.getD n default)
      rw [szI_succ hx]
      omega
    · cases h
theorem foldI_len {l : List Rec} {w : IView} (h : foldI l = .ok w) : w.ents.length ≤ szI l l.length := by
  unfold foldI at h
  split at h
  · split at h
    · rename_i b hb
      rw [List.getLast?_eq_getElem?] at hb
      have hlt := (List.getElem?_eq_some_iff.1 hb).1
      split at h
      · split at h
        · split at h
          · rename_i w' hw
            simp at h; subst h
            have h1 := goUpI_len _ _ (by omega) hw
            have h2 := szI_succ hb
            have e : l.length - 1 + 1 = l.length := by omega
            rw [e] at h2
            simp only [baseI] at h1
            omega
          · cases h
        · cases h
      · cases h
    · cases h
  · cases h
end Go.Proofs.YtbeafnkcimfeeaaGreatDoor.AM.TT
