/- Contracts of the functions and their models, by the abstract machine. -/
import Derived.Test.YtbeafnkcimfeeaaGreatDoorAm3
import Derived.Test.YtbeafnkcimfeeaaGreatDoorPfEnc
/- Memory: slots, pages; rows of cells at places. -/
namespace Go.Proofs.YtbeafnkcimfeeaaGreatDoor.AM.TT
set_option linter.unusedVariables false
set_option linter.unusedSimpArgs false
open Go Go.Proofs.YtbeafnkcimfeeaaGreatDoor.AM
set_option linter.unusedVariables false
theorem flat_drop {es : List (List DV)} {sz : Nat} (hes : ∀ r ∈ es, r.length = sz) {n : Nat} {row : List DV} (h : es[n]? = some row) : ∃ tail, (flatP es).drop (n * sz) = row.map .dat ++ tail := by
  induction es generalizing n with
  | nil => simp at h
  | cons a t ih =>
    have ha : a.length = sz := hes a (by simp)
    cases n with
    | zero => simp at h; subst h; exact ⟨flatP t, by simp [flatP]⟩
    | succ n =>
      obtain ⟨tl, h1⟩ := ih (fun r hr => hes r (by simp [hr])) (n := n) (by simpa using h)
      refine ⟨tl, ?_⟩
      have e1 : flatP (a :: t) = a.map .dat ++ flatP t := by simp [flatP]
      rw [e1, show (n + 1) * sz = (a.map PV.dat).length + n * sz by simp [ha, Nat.add_mul, Nat.add_comm], List.drop_append]
      rw [List.drop_eq_nil_of_le (by omega), List.nil_append, show (a.map PV.dat).length + n * sz - (a.map PV.dat).length = n * sz by omega, h1]
theorem flat_get {es : List (List DV)} {sz : Nat} (hes : ∀ r ∈ es, r.length = sz) {n j : Nat} {row : List DV} {d : DV} (h : es[n]? = some row) (hj : row[j]? = some d) : (flatP es)[n * sz + j]? = some (.dat d) := by
  obtain ⟨tl, h1⟩ := flat_drop hes h
  have : (flatP es)[n * sz + j]? = ((flatP es).drop (n * sz))[j]? := by rw [List.getElem?_drop]
  rw [this, h1, List.getElem?_append_left (by simp; exact (List.getElem?_eq_some_iff.1 hj).1)]
  simp [hj]
theorem flat_size {es : List (List DV)} {sz : Nat} (hes : ∀ r ∈ es, r.length = sz) : (flatP es).length = es.length * sz := (flatP_get hes).1
theorem flat_room {es : List (List DV)} {sz : Nat} (hes : ∀ r ∈ es, r.length = sz) {n : Nat} {row : List DV} (h : es[n]? = some row) : n * sz + sz ≤ (flatP es).length := by
  rw [flat_size hes]
  have hn : n < es.length := (List.getElem?_eq_some_iff.1 h).1
  have := Nat.mul_le_mul_right sz (show n + 1 ≤ es.length by omega)
  rw [Nat.add_mul] at this
  omega
theorem load_flat {m : Bool} {i : TyI} {es : List (List DV)} {sz off n j : Nat} {row : List DV} {d : DV} (hes : ∀ r ∈ es, r.length = sz) (h : es[n]? = some row) (hi : i.isAgg = false) (hj : row[j]? = some d) (ho : off = n * sz + j) :
    loadOut m i off (flatP es) = some { val := .dat d } := by
  unfold loadOut
  rw [hi, ho, flat_get hes h hj]
  rfl
theorem load_flatA {i : TyI} {es : List (List DV)} {sz off n j : Nat} {row : List DV} {ds : List DV} (hes : ∀ r ∈ es, r.length = sz) (h : es[n]? = some row) (hi : i.isAgg = true) (hd : (row.drop j).take i.size = ds) (hl : j + i.size ≤ sz) (ho : off = n * sz + j) :
    loadOut false i off (flatP es) = some { val := .dat (.agg ds) } := by
  obtain ⟨tl, h1⟩ := flat_drop hes h
  have hr := flat_room hes h
  have hrow : row.length = sz := hes row (List.mem_of_getElem? h)
  unfold loadOut
  rw [hi, if_pos rfl, if_pos (by omega), ho]
  have e : (flatP es).drop (n * sz + j) = (row.drop j).map .dat ++ tl := by
    rw [← List.drop_drop, h1, List.drop_append_of_le_length (by simp; omega), List.map_drop]
  have e2 : ((row.drop j).map PV.dat ++ tl).take i.size = ds.map .dat := by
    rw [List.take_append_of_le_length (by simp; omega), ← List.map_take, hd]
  have e3 : ∀ l : List DV, allD (l.map .dat) = some l := by
    intro l
    induction l with
    | nil => rfl
    | cons a r ih => simp [allD, asD, ih]
  rw [e, e2]
  simp [collect, e3]
theorem setR_flat {es : List (List DV)} {sz n j : Nat} {row new : List DV} (hes : ∀ r ∈ es, r.length = sz) (h : es[n]? = some row) (hl : j + new.length ≤ sz) :
    setR (flatP es) (n * sz + j) (new.map .dat) = flatP (es.set n (row.take j ++ new ++ row.drop (j + new.length))) := by
  induction es generalizing n with
  | nil => simp at h
  | cons a t ih =>
    have ha : a.length = sz := hes a (by simp)
    have e1 : ∀ (b : List DV) (u : List (List DV)), flatP (b :: u) = b.map .dat ++ flatP u := by intro b u; simp [flatP]
    cases n with
    | zero =>
      simp at h
      subst h
      rw [List.set_cons_zero, e1, e1]
      unfold setR
      rw [Nat.zero_mul, Nat.zero_add, List.take_append_of_le_length (by simp; omega), List.drop_append_of_le_length (by simp; omega)]
      simp [List.map_take, List.map_drop]
    | succ n =>
      have := ih (fun r hr => hes r (by simp [hr])) (n := n) (by simpa using h)
      rw [List.set_cons_succ, e1, e1, ← this]
      unfold setR
      have hq : (n + 1) * sz + j = (a.map PV.dat).length + (n * sz + j) := by simp [ha, Nat.add_mul]; omega
      rw [hq, Nat.add_assoc, List.take_append, List.drop_append, List.take_of_length_le (l := a.map PV.dat) (by omega), List.drop_eq_nil_of_le (as := a.map PV.dat) (by omega)]
      simp
theorem store_flat {k : Key} {es : List (List DV)} {sz off n j : Nat} {row new : List DV} {cs : List PV} {es' : List (List DV)} (hes : ∀ r ∈ es, r.length = sz) (h : es[n]? = some row) (hc : cs = new.map .dat) (hl : j + new.length ≤ sz) (ho : off = n * sz + j)
    (he : es.set n (row.take j ++ new ++ row.drop (j + new.length)) = es') : storeOut k off cs (flatP es) = some { val := unitP, wr := [(k, flatP es')] } := by
  subst he hc
  have hr := flat_room hes h
  unfold storeOut
  rw [ho, setR_flat hes h hl, if_pos (by simp; omega)]
structure Slot where
  gen : Int
  used : Bool
  r : Rec
deriving Inhabited
def zrec : List DV := [I 0, .str [], .str [], .bool false, I 0, .nil 2, .nil 2, .str [], .str [], I 0, I 0, I 0, .str [], I 0, I 0]
def eslot (s : Slot) : List DV := I s.gen :: .bool s.used :: (if s.used then ec s.r else zrec)
abbrev eslots (l : List Slot) : List (List DV) := l.map eslot
theorem eslot_len : ∀ l : List Slot, ∀ r ∈ eslots l, r.length = 17 := by
  intro l r hr
  obtain ⟨s, _, rfl⟩ := List.mem_map.1 hr
  unfold eslot
  split <;> rfl
structure Pg where
  used : Bool
  head : Ref
deriving Inhabited
def epag (p : Pg) : List DV := [.bool p.used, I p.head.slot, I p.head.gen]
abbrev epags (l : List Pg) : List (List DV) := l.map epag
theorem epag_len : ∀ l : List Pg, ∀ r ∈ epags l, r.length = 3 := by
  intro l r hr
  obtain ⟨s, _, rfl⟩ := List.mem_map.1 hr
  rfl
def freeSlot : Slot := ⟨0, false, noRec⟩
def freePg : Pg := ⟨false, ⟨0, 0⟩⟩
theorem zero_slots (n : Nat) : (List.replicate n (([I 0, .bool false, I 0, .str [], .str [], .bool false, I 0, .nil 2, .nil 2, .str [], .str [], I 0, I 0, I 0, .str [], I 0, I 0] : List DV).map PV.dat)).flatten = flatP (eslots (List.replicate n freeSlot)) := by
  simp [flatP, eslot, freeSlot, zrec]
theorem zero_pages (n : Nat) : (List.replicate n (([.bool false, I 0, I 0] : List DV).map PV.dat)).flatten = flatP (epags (List.replicate n freePg)) := by
  simp [flatP, epag, freePg]
structure MemS where
  count : Int
  lim : Limits
  slots : List Slot
  last : Int
  pages : List Pg
  now : Int
  thr : Int
abbrev arL (sl : List Slot) (last : Int) (k1 k2 : Key) : List (Key × List PV) := [(k1, [.row k2 17, .dat (I last)]), (k2, flatP (eslots sl))]
abbrev tbL (pl : List Pg) (k3 k4 : Key) : List (Key × List PV) := [(k3, [.row k4 3]), (k4, flatP (epags pl))]
abbrev meC (c : Int) (l : Limits) (k1 k3 k5 : Key) : List PV := [.dat (I c), .dat (I l.slots), .dat (I l.pages), .dat (I l.threads), .dat (I l.rows), .dat (I l.chain), .dat (I l.count), .ptr k1 0, .ptr k3 0, .ptr k5 0]
abbrev memL (M : MemS) (k0 k1 k2 k3 k4 k5 : Key) : List (Key × List PV) :=
  [(k0, meC M.count M.lim k1 k3 k5), (k1, [.row k2 17, .dat (I M.last)]), (k2, flatP (eslots M.slots)), (k3, [.row k4 3]), (k4, flatP (epags M.pages)), (k5, [.dat (I M.now), .dat (I M.last), .dat (I M.thr), .any])]
end Go.Proofs.YtbeafnkcimfeeaaGreatDoor.AM.TT
