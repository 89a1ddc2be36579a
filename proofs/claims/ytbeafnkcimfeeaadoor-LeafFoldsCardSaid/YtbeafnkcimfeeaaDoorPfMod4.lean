/- Contracts of the functions and their models, by the abstract machine. -/
import Derived.Test.YtbeafnkcimfeeaaDoorPfMod3
/- Models (4): cases of plans. -/
namespace Go.Proofs.YtbeafnkcimfeeaaDoor.AM.TT
set_option linter.unusedVariables false
set_option linter.unusedSimpArgs false
open Go Go.Proofs.YtbeafnkcimfeeaaDoor.AM
structure Case where
  n : Int
  chain : List Rec
  above : List Rec
  some : Bool
  key : Str
  limits : Limits
  writes : Bool
def ecase (c : Case) : List DV := [I c.n, .lst 15 (ecs c.chain), .lst 15 (ecs c.above), .bool c.some, .str c.key, I c.limits.slots, I c.limits.pages, I c.limits.threads, I c.limits.rows, I c.limits.chain, I c.limits.count, .bool c.writes]
def fewC (c : Case) : Bool := fewM c.chain && fewM8 c.chain && fewM c.above && fewM8 c.above && decide (c.key.length ≤ 100)
def ofP (n : Int) (h : Ref) (l : List Rec) (rf : List Ref) : Except Int Page :=
  if (match l[l.length - 1]? with | some b => decide (b.kind = 1) | none => false) then
    (match foldL l with | .ok w => .ok ⟨n, h, l, rf, true, w, noIView⟩ | .error c => .error c)
  else (match foldI l with | .ok w => .ok ⟨n, h, l, rf, false, noView, w⟩ | .error c => .error c)
def madeP (c : Case) : Except Int Page := ofP c.n ⟨1, 1⟩ c.chain []
def madeA (c : Case) : Above := match foldI c.above with | .ok v => ⟨c.some, 1, noRef, v⟩ | .error _ => ⟨false, 1, noRef, noIView⟩

theorem goUp_len {l : List Rec} {w : LView} : ∀ (n : Nat) (v : LView), n ≤ l.length → goUp l n v = some w → w.rows.length ≤ v.rows.length + szL l n
  | 0, v, _, h => by simp [goUp] at h; subst h; simp [szL]
  | n + 1, v, hn, h => by
    have hx : l[n]? = some (l.getD n default) := by simp [List.getD, List.getElem?_eq_getElem (show n < l.length by omega)]
    rw [goUp] at h
    split at h
    · have h1 := goUp_len n _ (by omega) h
      have h2 := upV_len v (l.getD n default)
      rw [szL_succ hx]
      omega
    · cases h
theorem foldL_len {l : List Rec} {w : LView} (h : foldL l = .ok w) : w.rows.length ≤ szL l l.length := by
  unfold foldL at h
  split at h
  · split at h
    · rename_i b hb
      rw [List.getLast?_eq_getElem?] at hb
      have hlt := (List.getElem?_eq_some_iff.1 hb).1
      split at h
      · split at h
        · split at h
          · rename_i w' hw
            simp at h; subst h
            have h1 := goUp_len _ _ (by omega) hw
            have h2 := szL_succ hb
            have e : l.length - 1 + 1 = l.length := by omega
            rw [e] at h2
            simp only [baseV] at h1
            omega
          · cases h
        · cases h
      · cases h
    · cases h
  · cases h
theorem goUpI_len {l : List Rec} {w : IView} : ∀ (n : Nat) (v : IView), n ≤ l.length → goUpI l n v = some w → w.ents.length ≤ v.ents.length + szI l n
  | 0, v, _, h => by simp [goUpI] at h; subst h; simp [szI]
  | n + 1, v, hn, h => by
    have hx : l[n]? = some (l.getD n default) := by simp [List.getD, List.getElem?_eq_getElem (show n < l.length by omega)]
    rw [goUpI] at h
    split at h
    · have h1 := goUpI_len n _ (by omega) h
      have h2 := upI_len v (l.getD n default)
      rw [szI_succ hx]
      omega
    · cases h
theorem foldI_len {l : List Rec} {w : IView} (h : foldI l = .ok w) : w.ents.length ≤ szI l l.length := by
  unfold foldI at h
  split at h
  · split at h
    · rename_i b hb
      rw [List.getLast?_eq_getElem?] at hb
      have hlt := (List.getElem?_eq_some_iff.1 hb).1
      split at h
      · split at h
        · split at h
          · rename_i w' hw
            simp at h; subst h
            have h1 := goUpI_len _ _ (by omega) hw
            have h2 := szI_succ hb
            have e : l.length - 1 + 1 = l.length := by omega
            rw [e] at h2
            simp only [baseI] at h1
            omega
          · cases h
        · cases h
      · cases h
    · cases h
  · cases h
theorem madeP_len {c : Case} {p : Page} (hf : fewC c = true) (h : madeP c = .ok p) : p.rows.rows.length ≤ 1000000 ∧ p.inner.ents.length ≤ 1000000 := by
  simp only [fewC, Bool.and_eq_true] at hf
  obtain ⟨⟨⟨⟨q1, q2⟩, q3⟩, q4⟩, q5⟩ := hf
  have z1 := fewM_sz q1
  have z2 := fewM8_sz q2
  unfold madeP ofP at h
  generalize (match c.chain[c.chain.length - 1]? with | some b => decide (b.kind = 1) | none => false) = b at h
  cases b with
  | true =>
    rw [if_pos rfl] at h
    cases hw : foldL c.chain with
    | ok w =>
      have := foldL_len hw
      rw [hw] at h
      simp at h; subst h
      simp [noIView]; omega
    | error e => rw [hw] at h; cases h
  | false =>
    rw [if_neg (by simp)] at h
    cases hw : foldI c.chain with
    | ok w =>
      have := foldI_len hw
      rw [hw] at h
      simp at h; subst h
      simp [noView]; omega
    | error e => rw [hw] at h; cases h
theorem reads_kind (p : Page) (a : Above) (k : Str) (l : Limits) : (decideP p a k l false).kind = 1 ∨ (decideP p a k l false).kind = 2 ∨ (decideP p a k l false).kind = 3 ∨ (decideP p a k l false).kind = 10 := by
  unfold decideP beyondP
  split
  · simp [plan]
  · split
    · rename_i h; simp at h
    · split
      · split
        · simp [plan]
        · split
          · rename_i h; simp at h
          · simp
      · split
        · rename_i h; simp at h
        · split
          · simp [plan]
          · split <;> simp [plan]
end Go.Proofs.YtbeafnkcimfeeaaDoor.AM.TT
