/- Contracts of the functions and their models, by the abstract machine. -/
/- Models: what the functions compute, in plain words. -/
namespace Go.Proofs.YtbeafnkcimfeeaaGreatDoor.AM.TT
set_option linter.unusedVariables false
set_option linter.unusedSimpArgs false
abbrev Str := List UInt8
def lt : Str → Str → Bool
  | _, [] => false
  | [], _ :: _ => true
  | a :: r, b :: s => if a = b then lt r s else decide (a < b)
def cmp (a b : Str) : Int := if a = b then 0 else if lt a b then -1 else 1
def common : Str → Str → Nat
  | a :: r, b :: s => if a = b then common r s + 1 else 0
  | _, _ => 0
theorem common_le : ∀ a b : Str, common a b ≤ a.length ∧ common a b ≤ b.length
  | a :: r, b :: s => by
    unfold common
    have := common_le r s
    split <;> simp <;> omega
  | [], b => by simp [common]
  | a :: r, [] => by simp [common]
theorem common_at : ∀ (a b : Str) (n : Nat) (h1 : n < a.length) (h2 : n < b.length), n ≤ common a b → (a[n] = b[n] ↔ n + 1 ≤ common a b)
  | a :: r, b :: s, 0, _, _, _ => by
    unfold common
    split <;> simp [*]
  | a :: r, b :: s, n + 1, h1, h2, h => by
    unfold common at h ⊢
    split at h
    · rename_i q
      rw [if_pos q]
      have := common_at r s n (by simpa using h1) (by simpa using h2) (by omega)
      simp [this]
    · omega
  | [], _, _, h, _, _ => by simp at h
  | _ :: _, [], _, _, h, _ => by simp at h
theorem lt_common : ∀ (a b : Str), (common a b = a.length → common a b = b.length → a = b) ∧
    (common a b = a.length → common a b < b.length → lt a b = true) ∧ (common a b < a.length → common a b = b.length → lt a b = false ∧ a ≠ b) ∧
    ∀ x y, a[common a b]? = some x → b[common a b]? = some y → lt a b = decide (x < y) ∧ x ≠ y ∧ a ≠ b
  | [], [] => by simp [common, lt]
  | [], _ :: _ => by simp [common, lt]
  | _ :: _, [] => by simp [common, lt]
  | a :: r, b :: s => by
    unfold common lt
    split
    · rename_i q
      subst q
      obtain ⟨h1, h2, h3, h4⟩ := lt_common r s
      simp
      exact ⟨h1, h2, h3, h4⟩
    · rename_i q
      simp [q]
def rightK (s : Str) : Bool := decide (1 ≤ s.length) && decide (s.length ≤ 16)
def inS (low high : Str) (unb : Bool) (key : Str) : Bool := !lt key low && (unb || lt key high)
theorem lt_irrefl : ∀ a : Str, lt a a = false
  | [] => rfl
  | a :: r => by simp [lt, lt_irrefl r]
theorem lt_asymm : ∀ {a b : Str}, lt a b = true → lt b a = false
  | _, [], h => by simp [lt] at h
  | [], _ :: _, _ => by simp [lt]
  | a :: r, b :: s, h => by
    unfold lt at h ⊢
    split at h
    · rename_i q; rw [if_pos q.symm]; exact lt_asymm h
    · rename_i q
      rw [if_neg (fun e => q e.symm)]
      simp at h ⊢
      exact UInt8.le_of_lt h
theorem lt_trans : ∀ {a b c : Str}, lt a b = true → lt b c = true → lt a c = true
  | _, [], _, h, _ => by simp [lt] at h
  | _, _ :: _, [], _, h => by simp [lt] at h
  | [], _ :: _, _ :: _, _, _ => by simp [lt]
  | a :: r, b :: s, c :: t, h, k => by
    unfold lt at h k ⊢
    split at h
    · rename_i q
      subst q
      split at k
      · rename_i q; subst q; simp; exact lt_trans h k
      · rename_i q; rw [if_neg q]; exact k
    · rename_i q
      split at k
      · rename_i q2; subst q2; rw [if_neg q]; exact h
      · rename_i q2
        simp at h k
        have := UInt8.lt_trans h k
        rw [if_neg (fun e => by subst e; exact absurd this (by simp))]
        simpa using this
theorem lt_total : ∀ {a b : Str}, lt a b = false → lt b a = false → a = b
  | [], [], _, _ => rfl
  | [], _ :: _, h, _ => by simp [lt] at h
  | _ :: _, [], _, h => by simp [lt] at h
  | a :: r, b :: s, h, k => by
    unfold lt at h k
    split at h
    · rename_i q
      subst q
      simp at k
      rw [lt_total h k]
    · rename_i q
      rw [if_neg (fun e => q e.symm)] at k
      simp at h k
      exact absurd (UInt8.le_antisymm k h) q
theorem cmp_lt (a b : Str) : decide (cmp a b < 0) = lt a b := by
  unfold cmp
  split
  · rename_i q; subst q; simp [lt_irrefl]
  · split <;> simp [*]
theorem cmp_le (a b : Str) : decide (cmp a b ≤ 0) = !lt b a := by
  unfold cmp
  split
  · rename_i q; subst q; simp [lt_irrefl]
  · rename_i q
    split
    · rename_i h; simp [lt_asymm h]
    · rename_i h
      simp at h
      cases k : lt b a with
      | true => simp
      | false => exact absurd (lt_total h k) q
theorem cmp_ge (a b : Str) : decide (0 ≤ cmp a b) = !lt a b := by
  rw [← cmp_lt]
  by_cases h : cmp a b < 0
  · have : ¬ 0 ≤ cmp a b := by omega
    simp [h, this]
  · have : 0 ≤ cmp a b := by omega
    simp [h, this]
structure Row where
  key : Str
  val : Str
deriving DecidableEq, Inhabited
structure Entry where
  key : Str
  page : Int
deriving DecidableEq, Inhabited
structure Hold where
  page : Int
  left : Int
  key : Str
deriving DecidableEq, Inhabited
structure Ref where
  slot : Int
  gen : Int
deriving DecidableEq, Inhabited
structure Rec where
  kind : Int
  low : Str
  high : Str
  unb : Bool
  right : Int
  rows : List Row
  ents : List Entry
  key : Str
  val : Str
  page : Int
  hold : Hold
  next : Ref
deriving DecidableEq, Inhabited
structure LView where
  low : Str
  high : Str
  unb : Bool
  right : Int
  rows : List Row
  gone : Bool
deriving DecidableEq, Inhabited
def noHold : Hold := ⟨0, 0, []⟩
def noRef : Ref := ⟨0, 0⟩
def noRec : Rec := ⟨0, [], [], false, 0, [], [], [], [], 0, noHold, noRef⟩
def noView : LView := ⟨[], [], false, 0, [], false⟩
def fitsK (r : Row) : Bool := rightK r.key && decide (r.val.length ≤ 16)
def rightR (l : List Row) : Bool := (List.range l.length).all fun j => fitsK (l.getD j default) && (j == 0 || lt (l.getD (j - 1) default).key (l.getD j default).key)
theorem rightR_iff {l : List Row} : rightR l = true ↔ ∀ j, j < l.length → fitsK (l.getD j default) = true ∧ (0 < j → lt (l.getD (j - 1) default).key (l.getD j default).key = true) := by
  simp [rightR, List.all_eq_true]
  refine ⟨fun h j hj => ⟨(h j hj).1, fun q => ((h j hj).2).resolve_left (by omega)⟩, fun h j hj => ⟨(h j hj).1, ?_⟩⟩
  rcases Nat.eq_zero_or_pos j with q | q
  · exact .inl q
  · exact .inr ((h j hj).2 q)
def place (l : List Row) (key : Str) : Nat := (l.takeWhile fun r => lt r.key key).length
theorem place_le (l : List Row) (key : Str) : place l key ≤ l.length := by
  unfold place
  exact List.Sublist.length_le (List.takeWhile_sublist _)
theorem place_at {l : List Row} {key : Str} {n : Nat} {x : Row} (hn : n ≤ place l key) (hx : l[n]? = some x) : (lt x.key key = true ↔ n + 1 ≤ place l key) := by
  induction l generalizing n with
  | nil => simp at hx
  | cons a r ih =>
    unfold place at hn ⊢
    simp only [List.takeWhile_cons] at hn ⊢
    cases n with
    | zero =>
      simp at hx
      subst hx
      split <;> simp [*]
    | succ n =>
      split at hn
      · rename_i q
        rw [if_pos q]
        simp only [List.length_cons] at hn ⊢
        have := ih (n := n) (by unfold place; omega) (by simpa using hx)
        unfold place at this
        rw [this]
        omega
      · simp at hn
def putR (l : List Row) (r : Row) (t : Bool) : List Row := l.take (place l r.key) ++ r :: l.drop (place l r.key + if t then 1 else 0)
def there (l : List Row) (key : Str) : Bool := match l[place l key]? with | some x => decide (x.key = key) | none => false
def dropR (l : List Row) (k : Str) : List Row := if there l k then l.take (place l k) ++ l.drop (place l k + 1) else l
theorem place_lt {l : List Row} {k : Str} (h : there l k = true) : place l k < l.length := by
  unfold there at h
  split at h
  · rename_i x hx
    exact (List.getElem?_eq_some_iff.1 hx).1
  · cases h
theorem take_flatten {α : Type} {p : List (List α)} {n : Nat} {x : List α} (h : p[n]? = some x) : (p.take (n + 1)).flatten = (p.take n).flatten ++ x := by
  rw [List.take_add_one, h]; simp
theorem flatten_le {α : Type} (p : List (List α)) (n : Nat) : (p.take n).flatten.length ≤ p.flatten.length := by
  have : p.flatten = (p.take n).flatten ++ (p.drop n).flatten := by rw [← List.flatten_append, List.take_append_drop]
  rw [this]; simp
def joinOk (a b : List Row) : Bool := match a.getLast?, b.head? with | some x, some y => lt x.key y.key | _, _ => true
def soundL (l : List Row) (low high : Str) (u : Bool) : Bool := !(u && !decide (high = [])) && rightR l && l.all fun r => inS low high u r.key
def hasV (v : LView) (k : Str) : Bool := inS v.low v.high v.unb k
def upV (v : LView) (r : Rec) : LView × Bool :=
  if r.kind = 2 then
    if fitsK ⟨r.key, r.val⟩ then ({ v with rows := putR v.rows ⟨r.key, r.val⟩ (there v.rows r.key) }, !v.gone && hasV v r.key)
    else ({ v with rows := [] }, false)
  else if r.kind = 3 then ({ v with rows := dropR v.rows r.key }, !v.gone && hasV v r.key)
  else if r.kind = 4 then ({ v with rows := v.rows.take (place v.rows r.key), high := r.key, unb := false, right := r.page }, !v.gone && hasV v r.key && lt v.low r.key)
  else if r.kind = 6 then
    if joinOk v.rows r.rows then ({ v with rows := v.rows ++ r.rows, high := r.high, unb := r.unb, right := r.right }, !v.gone && !v.unb && decide (v.high = r.key) && soundL r.rows r.key r.high r.unb && !lt r.key v.low && (r.unb || lt r.key r.high))
    else (v, false)
  else if r.kind = 5 then ({ v with gone := true }, !v.gone)
  else (v, false)
theorem upV_len (v : LView) (r : Rec) : (upV v r).1.rows.length ≤ v.rows.length + r.rows.length + 1 := by
  have hp := place_le v.rows r.key
  unfold upV
  split
  · split
    · simp only [putR, List.length_append, List.length_take, List.length_cons, List.length_drop]; omega
    · simp
  · split
    · simp only [dropR]; split <;> simp <;> omega
    · split
      · simp; omega
      · split
        · split <;> simp <;> omega
        · split <;> simp <;> omega
def baseV (b : Rec) : LView := ⟨b.low, b.high, b.unb, b.right, b.rows, false⟩
def goUp (l : List Rec) : Nat → LView → Option LView
  | 0, v => some v
  | n + 1, v => if (upV v (l.getD n default)).2 then goUp l n (upV v (l.getD n default)).1 else none
def kindL (r : Rec) : Bool := decide (1 ≤ r.kind) && decide (r.kind ≤ 6)
def foldL (l : List Rec) : Except Int LView :=
  if l.all kindL then
    match l.getLast? with
    | some b =>
      if b.kind = 1 then
        if soundL b.rows b.low b.high b.unb then (match goUp l (l.length - 1) (baseV b) with | some w => .ok w | none => .error 10)
        else .error 10
      else .error 10
    | none => .error 10
  else .error 9
def szL (l : List Rec) (n : Nat) : Nat := ((l.take n).map fun r => r.rows.length + 1).sum
theorem szL_succ {l : List Rec} {n : Nat} {x : Rec} (h : l[n]? = some x) : szL l (n + 1) = szL l n + (x.rows.length + 1) := by
  unfold szL
  rw [List.take_add_one, h]
  simp
theorem szL_le (l : List Rec) (n : Nat) : szL l n ≤ szL l l.length := by
  unfold szL
  rw [List.take_length]
  conv => rhs; rw [← List.take_append_drop n l, List.map_append, List.sum_append]
  omega
theorem szL_len (l : List Rec) : l.length ≤ szL l l.length := by
  unfold szL
  rw [List.take_length]
  induction l with
  | nil => simp
  | cons a r ih => simp; omega
theorem upV_none {v : LView} {r : Rec} (h2 : r.kind ≠ 2) (h3 : r.kind ≠ 3) (h4 : r.kind ≠ 4) (h5 : r.kind ≠ 5) (h6 : r.kind ≠ 6) : upV v r = (v, false) := by
  simp [upV, h2, h3, h4, h5, h6]
theorem foldL_kind {l : List Rec} {n : Nat} {x : Rec} (h : l[n]? = some x) (hk : kindL x = false) : foldL l = .error 9 := by
  unfold foldL
  rw [if_neg]
  intro q
  rw [List.all_eq_true] at q
  have := q x (List.mem_of_getElem? h)
  rw [hk] at this; cases this
theorem foldL_all {l : List Rec} {b : Rec} (h : ∀ j, j < l.length → kindL (l.getD j default) = true) (hb : l[l.length - 1]? = some b) : foldL l =
    if b.kind = 1 then (if soundL b.rows b.low b.high b.unb then (match goUp l (l.length - 1) (baseV b) with | some w => .ok w | none => .error 10) else .error 10) else .error 10 := by
  unfold foldL
  rw [if_pos]
  · rw [List.getLast?_eq_getElem?, hb]
  · rw [List.all_eq_true]
    intro x hx
    obtain ⟨j, hj⟩ := List.getElem?_of_mem hx
    have hlt := (List.getElem?_eq_some_iff.1 hj).1
    have := h j hlt
    simpa [List.getD, hj] using this
structure IView where
  low : Str
  high : Str
  unb : Bool
  right : Int
  ents : List Entry
  held : Bool
  hold : Hold
deriving DecidableEq, Inhabited
structure Page where
  n : Int
  head : Ref
  chain : List Rec
  refs : List Ref
  leaf : Bool
  rows : LView
  inner : IView
deriving DecidableEq, Inhabited
structure Above where
  some : Bool
  n : Int
  head : Ref
  view : IView
deriving DecidableEq, Inhabited
structure Limits where
  slots : Int
  pages : Int
  threads : Int
  rows : Int
  chain : Int
  count : Int
deriving DecidableEq, Inhabited
structure Plan where
  kind : Int
  to : Int
  entry : Entry
  hold : Hold
deriving DecidableEq, Inhabited
def noEntry : Entry := ⟨[], 0⟩
def noIView : IView := ⟨[], [], false, 0, [], false, noHold⟩
def noPage : Page := ⟨0, noRef, [], [], false, noView, noIView⟩
def plan (k : Int) : Plan := ⟨k, 0, noEntry, noHold⟩
def sizeP (p : Page) : Int := p.rows.rows.length + p.inner.ents.length
def lowP (p : Page) : Str := if p.leaf then p.rows.low else p.inner.low
def highP (p : Page) : Str := if p.leaf then p.rows.high else p.inner.high
def unbP (p : Page) : Bool := if p.leaf then p.rows.unb else p.inner.unb
def rightP (p : Page) : Int := if p.leaf then p.rows.right else p.inner.right
def hasP (p : Page) (k : Str) : Bool := inS (lowP p) (highP p) (unbP p) k
def toRow (e : Entry) : Row := ⟨e.key, []⟩
def placeE (l : List Entry) (k : Str) : Nat := place (l.map toRow) k
def thereE (l : List Entry) (k : Str) : Bool := there (l.map toRow) k
theorem placeE_le (l : List Entry) (k : Str) : placeE l k ≤ l.length := by
  have := place_le (l.map toRow) k
  simpa [placeE] using this
theorem placeE_at {l : List Entry} {k : Str} {n : Nat} {x : Entry} (hn : n ≤ placeE l k) (hx : l[n]? = some x) : (lt x.key k = true ↔ n + 1 ≤ placeE l k) := by
  have := place_at (l := l.map toRow) (x := toRow x) hn (by rw [List.getElem?_map, hx]; rfl)
  exact this
theorem thereE_at {l : List Entry} {k : Str} {x : Entry} (h : l[placeE l k]? = some x) : thereE l k = decide (x.key = k) := by
  have h2 : (l.map toRow)[place (l.map toRow) k]? = some (toRow x) := by
    rw [List.getElem?_map]
    show Option.map toRow l[placeE l k]? = _
    rw [h]; rfl
  unfold thereE there
  rw [h2]; rfl
theorem thereE_end {l : List Entry} {k : Str} (h : l.length ≤ placeE l k) : thereE l k = false := by
  unfold thereE there
  rw [List.getElem?_eq_none (by simpa [placeE] using h)]
theorem placeE_lt {l : List Entry} {k : Str} (h : thereE l k = true) : placeE l k < l.length := by
  rcases Nat.lt_or_ge (placeE l k) l.length with q | q
  · exact q
  · rw [thereE_end q] at h; cases h
def hasI (v : IView) (k : Str) : Bool := inS v.low v.high v.unb k
def risingI (v : IView) : Bool := (List.range v.ents.length).all fun j => hasI v (v.ents.getD j default).key && (j == 0 || lt (v.ents.getD (j - 1) default).key (v.ents.getD j default).key)
def soundI (v : IView) : Bool := (match v.ents.head? with | some x => decide (x.key = v.low) | none => false) && !(v.unb && !decide (v.high = [])) && risingI v
theorem risingI_iff {v : IView} : risingI v = true ↔ ∀ j, j < v.ents.length → hasI v (v.ents.getD j default).key = true ∧ (0 < j → lt (v.ents.getD (j - 1) default).key (v.ents.getD j default).key = true) := by
  simp [risingI, List.all_eq_true]
  refine ⟨fun h j hj => ⟨(h j hj).1, fun q => ((h j hj).2).resolve_left (by omega)⟩, fun h j hj => ⟨(h j hj).1, ?_⟩⟩
  rcases Nat.eq_zero_or_pos j with q | q
  · exact .inl q
  · exact .inr ((h j hj).2 q)
def upI (v : IView) (r : Rec) : IView × Bool :=
  if r.kind = 8 ∧ v.held = false then
    if thereE v.ents r.key || !hasI v r.key then (v, false)
    else ({ v with ents := v.ents.take (placeE v.ents r.key) ++ ⟨r.key, r.page⟩ :: v.ents.drop (placeE v.ents r.key) }, true)
  else if r.kind = 9 ∧ v.held = false then
    if !thereE v.ents r.key || decide (placeE v.ents r.key = 0) then (v, false)
    else ({ v with ents := v.ents.take (placeE v.ents r.key), high := r.key, unb := false, right := r.page }, true)
  else if r.kind = 10 ∧ v.held = false then
    if !thereE v.ents r.hold.key || decide (placeE v.ents r.hold.key = 0) || !decide ((v.ents.getD (placeE v.ents r.hold.key) default).page = r.hold.page) || !decide ((v.ents.getD (placeE v.ents r.hold.key - 1) default).page = r.hold.left) then (v, false)
    else ({ v with held := true, hold := r.hold }, true)
  else if r.kind = 11 ∧ v.held = true then
    ({ v with ents := v.ents.take (placeE v.ents v.hold.key) ++ v.ents.drop (placeE v.ents v.hold.key + 1), held := false, hold := noHold }, true)
  else (v, false)
def heldOk (v : IView) : Prop := v.held = true → thereE v.ents v.hold.key = true
theorem upI_len (v : IView) (r : Rec) : (upI v r).1.ents.length ≤ v.ents.length + 1 := by
  unfold upI
  repeat' split
  all_goals simp <;> omega
theorem upI_held {v : IView} {r : Rec} (h : heldOk v) : heldOk (upI v r).1 := by
  unfold heldOk at *
  unfold upI
  repeat' split
  all_goals simp_all
def childI (v : IView) (k : Str) : Option Entry :=
  let n := placeE v.ents k + if thereE v.ents k then 1 else 0
  if !hasI v k || decide (n = 0) then none else v.ents[n - 1]?
def baseI (b : Rec) : IView := ⟨b.low, b.high, b.unb, b.right, b.ents, false, noHold⟩
def goUpI (l : List Rec) : Nat → IView → Option IView
  | 0, v => some v
  | n + 1, v => if (upI v (l.getD n default)).2 then goUpI l n (upI v (l.getD n default)).1 else none
def kindI (r : Rec) : Bool := decide (7 ≤ r.kind) && decide (r.kind ≤ 11)
def foldI (l : List Rec) : Except Int IView :=
  if l.all kindI then
    match l.getLast? with
    | some b =>
      if b.kind = 7 then
        if soundI (baseI b) then (match goUpI l (l.length - 1) (baseI b) with | some w => .ok w | none => .error 10)
        else .error 10
      else .error 10
    | none => .error 10
  else .error 9
def szI (l : List Rec) (n : Nat) : Nat := ((l.take n).map fun r => r.ents.length + 1).sum
theorem szI_succ {l : List Rec} {n : Nat} {x : Rec} (h : l[n]? = some x) : szI l (n + 1) = szI l n + (x.ents.length + 1) := by
  unfold szI
  rw [List.take_add_one, h]
  simp
theorem szI_len (l : List Rec) : l.length ≤ szI l l.length := by
  unfold szI
  rw [List.take_length]
  induction l with
  | nil => simp
  | cons a r ih => simp; omega
theorem foldI_kind {l : List Rec} {n : Nat} {x : Rec} (h : l[n]? = some x) (hk : kindI x = false) : foldI l = .error 9 := by
  unfold foldI
  rw [if_neg]
  intro q
  rw [List.all_eq_true] at q
  have := q x (List.mem_of_getElem? h)
  rw [hk] at this; cases this
theorem foldI_all {l : List Rec} {b : Rec} (h : ∀ j, j < l.length → kindI (l.getD j default) = true) (hb : l[l.length - 1]? = some b) : foldI l =
    if b.kind = 7 then (if soundI (baseI b) then (match goUpI l (l.length - 1) (baseI b) with | some w => .ok w | none => .error 10) else .error 10) else .error 10 := by
  unfold foldI
  rw [if_pos]
  · rw [List.getLast?_eq_getElem?, hb]
  · rw [List.all_eq_true]
    intro x hx
    obtain ⟨j, hj⟩ := List.getElem?_of_mem hx
    have hlt := (List.getElem?_eq_some_iff.1 hj).1
    have := h j hlt
    simpa [List.getD, hj] using this
def isAt (l : List Entry) (page : Int) (i : Nat) : Bool := decide (0 < i) && decide ((l.getD i default).page = page)
def findI (l : List Entry) (page : Int) : Option Nat := (List.range l.length).find? (isAt l page)
def hold4 (v : IView) (page : Int) : Option Hold := match findI v.ents page with
  | some i => some ⟨page, (v.ents.getD (i - 1) default).page, (v.ents.getD i default).key⟩
  | none => none
end Go.Proofs.YtbeafnkcimfeeaaGreatDoor.AM.TT
