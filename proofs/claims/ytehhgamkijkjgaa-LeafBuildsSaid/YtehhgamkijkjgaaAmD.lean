/- The abstract machine (4): a literal row; an append. -/
import Derived.Test.YtehhgamkijkjgaaAmC
namespace Go.Proofs.Ytehhgamkijkjgaa.AM
open Go.RowKit
set_option linter.unusedVariables false
set_option linter.unusedSimpArgs false

/-- Rows of cells, flat. -/
def flat (m sz : Nat) (f : Nat → Nat → Value) : List Value := (List.range (m * sz)).map fun q => f (q / sz) (q % sz)

theorem flat_length (m sz : Nat) (f : Nat → Nat → Value) : (flat m sz f).length = m * sz := by simp [flat]

theorem idx_lt {m sz i j : Nat} (hi : i < m) (hj : j < sz) : i * sz + j < m * sz :=
  calc i * sz + j < i * sz + sz := Nat.add_lt_add_left hj _
    _ = (i + 1) * sz := (Nat.succ_mul i sz).symm
    _ ≤ m * sz := Nat.mul_le_mul_right _ hi

theorem idx_div {sz i j : Nat} (hj : j < sz) : (i * sz + j) / sz = i ∧ (i * sz + j) % sz = j := by
  have hp : 0 < sz := Nat.lt_of_le_of_lt (Nat.zero_le _) hj
  constructor
  · rw [Nat.add_comm, Nat.add_mul_div_right _ _ hp, Nat.div_eq_of_lt hj, Nat.zero_add]
  · rw [Nat.add_comm, Nat.add_mul_mod_self_right, Nat.mod_eq_of_lt hj]

theorem flat_get {m sz : Nat} {f : Nat → Nat → Value} {i j : Nat} (hi : i < m) (hj : j < sz) : (flat m sz f)[i * sz + j]? = some (f i j) := by
  have h := idx_lt hi hj
  obtain ⟨h1, h2⟩ := idx_div (i := i) hj
  simp [flat, h, h1, h2]

theorem flat_some {m sz : Nat} {f : Nat → Nat → Value} {q : Nat} {u : Value} (h : (flat m sz f)[q]? = some u) : q < m * sz ∧ u = f (q / sz) (q % sz) := by
  simp only [flat, List.getElem?_map, Option.map_eq_some_iff] at h
  obtain ⟨a, h1, rfl⟩ := h
  obtain ⟨h2, h3⟩ := List.getElem?_eq_some_iff.1 h1
  simp at h2 h3
  subst h3
  exact ⟨h2, rfl⟩

theorem addr_add (b o j : Nat) : (⟨b, o, none⟩ : Addr).add j = ⟨b, o + j, none⟩ := by
  unfold Addr.add; split <;> simp_all

theorem run_append_room' {P : Program} (w : World) (t ty e e' : TypeId) (i : TypeInfo) (ht : P.underlying t = some (.slice e)) (hi : P.info? e = some i)
    (g sLen sCap : Nat) (cur : Array Value) (hg : w.heap[g]? = some (.cells cur e' (0, 0)))
    (a : Addr) (m c : Nat) (news : List Value) (hl : news.length = m * i.size) (hnews : ∀ (j : Nat) (u : Value), news[j]? = some u → w.cell? (a.add j) = some u) (h1 : ∀ u ∈ news, u.oneCell' = true)
    (hroom : sLen + m ≤ sCap) (hfit : sLen * i.size + news.length ≤ cur.size) :
    (Builtin.append_ #[t, t] ty #[.slice (some ⟨g, 0, none⟩) sLen sCap, .slice (some a) m c]).run P w =
      .ok (.slice (some ⟨g, 0, none⟩) (sLen + m) sCap) (w.setRow g (cur.toList.take (sLen * i.size) ++ news ++ cur.toList.drop (sLen * i.size + news.length)).toArray) := by
  have hf := run_firstCells_some (P := P) w i.size m a m c news hl hnews
  have hst := run_storeCells_at P g (sLen * i.size) e' news 0 cur w hg (by simpa using hfit) h1
  simp only [Nat.add_zero] at hst
  simp [Builtin.append_, run_underlying ht, sizeOf, typeInfo, hi, Builtin.lenOf, hroom, hf, addr_add, hst]

/-- An append onto a row of one's own: in place, or into a new block. -/
theorem run_append_acc {P : Program} (w : World) (t ty e e' : TypeId) (i : TypeInfo) (z : Value) (ht : P.underlying t = some (.slice e)) (hi : P.info? e = some i) (hz : i.zero = some z)
    (hzs : z.cells.size = i.size) (v : Value) (n : Nat) (xs : List Value) (hown : w.ownsRow 0 e' i.size v n xs)
    (a : Addr) (m c : Nat) (news : List Value) (hl : news.length = m * i.size) (hnews : ∀ (j : Nat) (u : Value), news[j]? = some u → w.cell? (a.add j) = some u) (h1 : ∀ u ∈ news, u.oneCell' = true)
    (h63 : n + m ≤ maxLen) (hbytes : (n + m) * i.bytes ≤ 140737488355328) :
    ∃ v' w' e'', (Builtin.append_ #[t, t] ty #[v, .slice (some a) m c]).run P w = .ok v' w' ∧ w'.ownsRow 0 e'' i.size v' (n + m) (xs ++ news) ∧
      ((v'.ownBlock = v.ownBlock ∧ w.grownBy w' v.ownBlock) ∨ (v'.ownBlock = some w.heap.size ∧ w.grownBy w' none)) := by
  have hlen : (xs ++ news).length = (n + m) * i.size := by rw [List.length_append, hown.1, hl, Nat.add_mul]
  have hm63 : ((n + m : Nat) : Int) ≤ 9223372036854775807 := by simp only [maxLen] at h63; omega
  have grown : ∀ (old : Nat), old < n + m →
      (w.drew.alloc (.cells (xs.toArray ++ news.toArray ++ Builtin.zeroCells z.cells (grownCap w (n + m) old e - (n + m))) e)).ownsRow 0 e i.size
        (.slice (some ⟨w.heap.size, 0, none⟩) (n + m) (grownCap w (n + m) old e)) (n + m) (xs ++ news) ∧
      w.grownBy (w.drew.alloc (.cells (xs.toArray ++ news.toArray ++ Builtin.zeroCells z.cells (grownCap w (n + m) old e - (n + m))) e)) none := by
    intro old ho
    have hge := grownCap_ge w (n + m) old e
    refine ⟨⟨hlen, .inr ⟨w.heap.size, _, _, rfl, Nat.zero_le _, heap_alloc_new w.drew _, hge, grownCap_le_maxLen w (n + m) old e h63, ?_, ?_⟩⟩, ⟨rfl, rfl, rfl, by simp, fun k hk _ => Below.heap_alloc _ _ _ (by simpa using hk)⟩⟩
    · simp only [Array.size_append, List.size_toArray, size_zeroCells, hzs, hown.1, hl, ← Nat.add_mul]
      congr 1
      omega
    · simp only [Array.toList_append, List.append_assoc]
      rw [← List.append_assoc, ← hlen]
      exact List.take_left
  rcases hown.2 with ⟨rfl, rfl⟩ | ⟨g, cap, cur, rfl, hbg, hg, hnc, hcm, hcs, htake⟩
  · have hx : xs = [] := List.eq_nil_of_length_eq_zero (by simpa using hown.1)
    subst hx
    by_cases hm : m = 0
    · subst hm
      have hn : news = [] := List.eq_nil_of_length_eq_zero (by simpa using hl)
      subst hn
      refine ⟨.slice none 0 0, w, e, ?_, World.ownsRow_nil w 0 e i.size, .inl ⟨rfl, ⟨rfl, rfl, rfl, Nat.le_refl _, fun _ _ _ => rfl⟩⟩⟩
      simp [Builtin.append_, run_underlying ht, sizeOf, typeInfo, hi, Builtin.lenOf, Builtin.firstCells, loadCells, loadCellsFrom]
    · have hr := run_append_nil (P := P) w t ty e i z ht hi hz a m c news hl hnews (by omega) (by omega) (by simp only [Nat.zero_add] at hbytes; omega)
      have hgr := grown 0 (by omega)
      simp only [Nat.zero_add, List.nil_append, Array.empty_append] at hgr ⊢
      exact ⟨_, _, _, hr, hgr.1, .inr ⟨rfl, hgr.2⟩⟩
  · by_cases hroom : n + m ≤ cap
    · have hfit : n * i.size + news.length ≤ cur.size := by rw [hl, hcs, ← Nat.add_mul]; exact Nat.mul_le_mul_right _ hroom
      have hr := run_append_room' (P := P) w t ty e e' i ht hi g n cap cur hg a m c news hl hnews h1 hroom hfit
      refine ⟨_, _, e', hr, ⟨hlen, .inr ⟨g, cap, _, rfl, hbg, setRow_heap w g cur _ e' _ hg, hroom, hcm, ?_, ?_⟩⟩, .inl ⟨rfl, ⟨rfl, rfl, rfl, by simp, fun k _ hk => setRow_other w g k _ (fun q => hk (by simp [Value.ownBlock, q]))⟩⟩⟩
      · simp only [List.size_toArray, List.length_append, List.length_take, List.length_drop, Array.length_toList]
        omega
      · rw [htake, ← hlen]
        exact List.take_left
    · have holds : ∀ (j : Nat) (u : Value), xs[j]? = some u → w.cell? ((⟨g, 0, none⟩ : Addr).add j) = some u := hown.cells (g := g) rfl
      have hr := run_append_grow (P := P) w t ty e i z ht hi hz ⟨g, 0, none⟩ n cap xs hown.1 holds a m c news hl hnews (by omega) (by omega) (growslice_fits (by omega) hbytes)
      have hgr := grown cap (by omega)
      exact ⟨_, _, _, hr, hgr.1, .inr ⟨rfl, hgr.2⟩⟩

/-- The cells of a row of one's own are known from now on. -/
def knowRow (K : Known) (g : Nat) (xs : List Value) : Known := fun b o => if b = g then xs[o]? else K b o

def rowK (K : Known) (x : Value) (xs : List Value) : Known := match x.ownBlock with | some g => knowRow K g xs | none => K

theorem rowK_some {K : Known} {x : Value} {xs : List Value} {g : Nat} (h : x.ownBlock = some g) : rowK K x xs = knowRow K g xs := by simp [rowK, h]
theorem rowK_none {K : Known} {x : Value} {xs : List Value} (h : x.ownBlock = none) : rowK K x xs = K := by simp [rowK, h]

theorem setLive_eq (v : Bool) : ∀ (ks : List Key) (l : Key → Bool) (k : Key), setLive v ks l k = if k ∈ ks then v else l k
  | [], l, k => by simp [setLive]
  | a :: r, l, k => by
    rw [setLive, setLive_eq v r]
    by_cases h : k ∈ r
    · simp [h]
    · by_cases q : k = a
      · subst q; simp [h]
      · rw [upd_ne _ _ q]; simp [h, q]

theorem World.ownsRow_at {w : World} {e : TypeId} {sz n : Nat} {x : Value} {xs : List Value} {g : Nat} (h : w.ownsRow 0 e sz x n xs) (hg : x.ownBlock = some g) :
    ∃ cap, x = .slice (some ⟨g, 0, none⟩) n cap ∧ n ≤ cap ∧ cap ≤ maxLen ∧ ∀ j, j < n * sz → w.cell? ⟨g, j, none⟩ = xs[j]? := by
  have hq := h
  rcases h.2 with ⟨rfl, _⟩ | ⟨g', cap, cur, rfl, _, hh, hn, hm, _, _⟩
  · simp [Value.ownBlock] at hg
  · simp [Value.ownBlock] at hg
    subst hg
    exact ⟨cap, rfl, hn, hm, fun j hj => hq.cellAt j hj⟩

/-- A new row of one's own takes the place of the one that was consumed (or of none). -/
theorem stepF_row {σ : St} {w w' : World} {c : Cfg} (h : HS σ w c) (d : Nat) (val : PV) (us : List Key) (e0 e : TypeId) (sz n n' : Nat) (x x' : Value) (xs xs' : List Value)
    (hf : c.O (d, 0, σ.ep) = none) (hx : w.ownsRow 0 e0 sz x n xs) (hx' : w'.ownsRow 0 e sz x' n' xs') (hpre : ∃ r, xs' = xs ++ r)
    (hg : (x'.ownBlock = x.ownBlock ∧ w.grownBy w' x.ownBlock) ∨ (x'.ownBlock = some w.heap.size ∧ w.grownBy w' none))
    (hown : ∀ g, x.ownBlock = some g → (∀ o v, c.K g o = some v → o < n * sz) ∧ (∀ k, c.M k ≠ some g) ∧ (∀ τ, σ.live τ = true → τ ∉ us → ∀ y, c.O τ = some y → y.1.ownBlock ≠ some g) ∧
      ∃ τ ∈ us, ∃ y, c.O τ = some y ∧ y.1.ownBlock = some g) :
    StepF σ (some d) { val := val, use := us, nw := [0] } w w' c
      { K := rowK c.K x' xs', M := c.M, O := upd c.O (d, 0, σ.ep) (some (x', e, sz)) } ∧
    (∀ g, x'.ownBlock = some g → ∀ b o v, c.K b o = some v → knowRow c.K g xs' b o = some v) := by
  have hgb : ∃ row, w.grownBy w' row ∧ (∀ g, x'.ownBlock = some g → row = some g ∨ g = w.heap.size) ∧ (∀ g, row = some g → x.ownBlock = some g ∧ x'.ownBlock = some g) := by
    rcases hg with ⟨h1, h2⟩ | ⟨h1, h2⟩
    · exact ⟨_, h2, fun g hg => .inl (h1 ▸ hg), fun g hg => ⟨hg, h1.trans hg⟩⟩
    · exact ⟨_, h2, fun g hg => .inr (Option.some.inj (hg.symm.trans h1)), fun g hg => by cases hg⟩
  obtain ⟨row, hgr, hr1, hr2⟩ := hgb
  have hK : ∀ g, x'.ownBlock = some g → ∀ b o v, c.K b o = some v → knowRow c.K g xs' b o = some v := by
    intro g hg b o v hk
    unfold knowRow
    by_cases q : b = g
    · subst q
      rw [if_pos rfl]
      rcases hr1 b hg with hrow | rfl
      · obtain ⟨hxo, _⟩ := hr2 b hrow
        have hlt := (hown b hxo).1 o v hk
        obtain ⟨cap, _, _, _, hc⟩ := World.ownsRow_at hx hxo
        have h1 := hc o hlt
        rw [h.kin b o v hk] at h1
        obtain ⟨r, rfl⟩ := hpre
        rw [List.getElem?_append_left (by rw [hx.1]; exact hlt)]
        exact h1.symm
      · exact absurd (h.klt hk) (Nat.lt_irrefl _)
    · rw [if_neg q]; exact hk
  refine ⟨?_, hK⟩
  have hO : ∀ k y, upd c.O (d, 0, σ.ep) (some (x', e, sz)) k = some y → (c.O k = some y ∧ k ≠ (d, 0, σ.ep)) ∨ (k = (d, 0, σ.ep) ∧ y = (x', e, sz)) := by
    intro k y hk
    by_cases q : k = (d, 0, σ.ep)
    · subst q; rw [upd_same] at hk; exact .inr ⟨rfl, (Option.some.inj hk).symm⟩
    · rw [upd_ne _ _ q] at hk; exact .inl ⟨hk, q⟩
  have hOle : ∀ k y, c.O k = some y → upd c.O (d, 0, σ.ep) (some (x', e, sz)) k = some y := fun k y hk => by
    rw [upd_ne _ _ (fun q => by rw [q, hf] at hk; cases hk)]; exact hk
  have hKle : ∀ b o v, c.K b o = some v → rowK c.K x' xs' b o = some v := by
    intro b o v hk
    cases hb : x'.ownBlock with
    | none => rw [rowK_none hb]; exact hk
    | some g => rw [rowK_some hb]; exact hK g hb b o v hk
  have hle : c.le { K := rowK c.K x' xs', M := c.M, O := upd c.O (d, 0, σ.ep) (some (x', e, sz)) } := ⟨hKle, fun _ _ q => q, hOle⟩
  have hKn : ∀ b o v, rowK c.K x' xs' b o = some v → c.K b o = some v ∨ (x'.ownBlock = some b ∧ xs'[o]? = some v) := by
    intro b o v hk
    cases hb : x'.ownBlock with
    | none => rw [rowK_none hb] at hk; exact .inl hk
    | some g =>
      rw [rowK_some hb] at hk
      unfold knowRow at hk
      by_cases q : b = g
      · subst q; rw [if_pos rfl] at hk; exact .inr ⟨rfl, hk⟩
      · rw [if_neg q] at hk; exact .inl hk
  have htch : ∀ g, x.ownBlock = some g → touched { val := val, use := us, nw := [0] } c g := fun g hg => .inr (hown g hg).2.2.2
  have hkinOld : ∀ b o v, c.K b o = some v → x'.ownBlock ≠ some b → w'.cell? ⟨b, o, none⟩ = some v := by
    intro b o v hk hne
    refine hgr.cell (h.kin b o v hk) (fun q => hne ?_)
    exact (hr2 b q.symm).2
  refine ⟨hle, hgr.os, hgr.tape, hgr.output, hgr.size, fun b hb hn => ?_, fun b o hb hn => ?_, fun _ _ q => .inl q, fun τ y hy => ?_, ?_⟩
  · exact hgr.block b hb (fun q => hn (htch b (hr2 b q.symm).1))
  · cases hb' : x'.ownBlock with
    | none => show rowK c.K x' xs' b o = _; rw [rowK_none hb']
    | some g =>
      show rowK c.K x' xs' b o = c.K b o
      rw [rowK_some hb']
      unfold knowRow
      rw [if_neg (fun q => ?_)]
      subst q
      rcases hr1 b hb' with hrow | rfl
      · exact hn (htch b (hr2 b hrow).1)
      · exact absurd hb (Nat.lt_irrefl _)
  · rcases hO τ y hy with ⟨hy, _⟩ | ⟨rfl, rfl⟩
    · exact .inl hy
    · refine .inr ⟨⟨0, by simp, rfl⟩, fun g hg => ?_⟩
      rcases hr1 g hg with hrow | rfl
      · exact .inr (htch g (hr2 g hrow).1)
      · exact .inl (Nat.le_refl _)
  · refine ⟨?_, ?_, ?_, h.minj, ?_, ?_⟩
    · intro b o v hk
      by_cases hb : x'.ownBlock = some b
      · obtain ⟨cap, _, _, _, hc⟩ := World.ownsRow_at hx' hb
        have hv : xs'[o]? = some v := by
          rcases hKn b o v hk with h1 | ⟨_, h1⟩
          · have := hK b hb b o v h1
            unfold knowRow at this
            rwa [if_pos rfl] at this
          · exact h1
        rw [hc o (by rw [← hx'.1]; exact (List.getElem?_eq_some_iff.1 hv).1)]
        exact hv
      · rcases hKn b o v hk with h1 | ⟨h1, _⟩
        · exact hkinOld b o v h1 hb
        · exact absurd h1 hb
    · intro k cs hk
      simp only [Eff.app, wrMem, Eff.alKeys, List.map_nil] at hk
      obtain ⟨b, t, ar, h1, h2, h3, h4⟩ := h.box k cs hk
      refine ⟨b, t, ar, h1, (hgr.block b (h.mblk k b h1).1 (fun q => (hown b (hr2 b q.symm).1).2.1 k h1)).trans h2, h3, fun j v hj => ?_⟩
      obtain ⟨y, a1, a2, a3⟩ := h4 j v hj
      exact ⟨y, a1, a2, a3.mono hle⟩
    · intro k b hk
      refine ⟨Nat.lt_of_lt_of_le (h.mblk k b hk).1 hgr.size, fun o => ?_⟩
      show rowK c.K x' xs' b o = none
      cases ho : rowK c.K x' xs' b o with
      | none => rfl
      | some v =>
        rcases hKn b o v ho with h1 | ⟨h1, _⟩
        · rw [(h.mblk k b hk).2 o] at h1; cases h1
        · rcases hr1 b h1 with hrow | rfl
          · exact absurd hk ((hown b (hr2 b hrow).1).2.1 k)
          · exact absurd (h.mblk k _ hk).1 (Nat.lt_irrefl _)
    · intro τ ht
      simp only [Eff.app, Eff.nwKeys, List.map_cons, List.map_nil, Option.getD_some] at ht
      by_cases q : τ = (d, 0, σ.ep)
      · subst q
        refine ⟨x', e, sz, n', xs', upd_same _ _ _, hx', fun g hg => ⟨fun o v hk => ?_, fun k hk => ?_⟩⟩
        · rcases hKn g o v hk with h1 | ⟨_, h1⟩
          · have := hK g hg g o v h1
            unfold knowRow at this
            rw [if_pos rfl] at this
            rw [← hx'.1]; exact (List.getElem?_eq_some_iff.1 this).1
          · rw [← hx'.1]; exact (List.getElem?_eq_some_iff.1 h1).1
        · rcases hr1 g hg with hrow | rfl
          · exact (hown g (hr2 g hrow).1).2.1 k hk
          · exact absurd (h.mblk k _ hk).1 (Nat.lt_irrefl _)
      · simp only [setLive] at ht
        rw [upd_ne _ _ q, setLive_eq] at ht
        have hnu : τ ∉ us ∧ σ.live τ = true := by
          by_cases hu : τ ∈ us
          · rw [if_pos hu] at ht; cases ht
          · rw [if_neg hu] at ht; exact ⟨hu, ht⟩
        obtain ⟨y, e', sz', m, ys, h1, h2, h3⟩ := h.own τ hnu.2
        have hne : ∀ g, y.ownBlock = some g → x'.ownBlock ≠ some g := by
          intro g hyg hxg
          rcases hr1 g hxg with hrow | rfl
          · exact (hown g (hr2 g hrow).1).2.2.1 τ hnu.2 hnu.1 _ h1 hyg
          · exact absurd (h2.lt _ hyg).2 (Nat.lt_irrefl _)
        refine ⟨y, e', sz', m, ys, hOle _ _ h1, h2.kept hgr ?_, fun g hg => ⟨fun o v hk => ?_, (h3 g hg).2⟩⟩
        · cases hy : y.ownBlock with
          | none => exact .inl rfl
          | some g => exact .inr (fun q2 => hne g hy (hr2 g q2.symm).2)
        · rcases hKn g o v hk with h4 | ⟨h4, _⟩
          · exact (h3 g hg).1 o v h4
          · exact absurd h4 (hne g hg)
    · intro τ τ' y y' g a b hy hy' hg hg'
      simp only [Eff.app, Eff.nwKeys, List.map_cons, List.map_nil, Option.getD_some, setLive] at a b
      have old : ∀ τ y, c.O τ = some y → τ ≠ (d, 0, σ.ep) → upd (setLive false us σ.live) (d, 0, σ.ep) true τ = true → τ ∉ us ∧ σ.live τ = true := by
        intro τ y _ q ht
        rw [upd_ne _ _ q, setLive_eq] at ht
        by_cases hu : τ ∈ us
        · rw [if_pos hu] at ht; cases ht
        · rw [if_neg hu] at ht; exact ⟨hu, ht⟩
      have hne : ∀ τ y, c.O τ = some y → τ ∉ us → σ.live τ = true → ∀ g, y.1.ownBlock = some g → x'.ownBlock ≠ some g := by
        intro τ y h1 hu hl g hyg hxg
        obtain ⟨y2, e', sz', m, ys, h2, h3, _⟩ := h.own τ hl
        obtain rfl : y = (y2, e', sz') := Option.some.inj (h1.symm.trans h2)
        rcases hr1 g hxg with hrow | rfl
        · exact (hown g (hr2 g hrow).1).2.2.1 τ hl hu _ h1 hyg
        · exact absurd (h3.lt _ hyg).2 (Nat.lt_irrefl _)
      rcases hO τ y hy with ⟨hy, q⟩ | ⟨rfl, rfl⟩
      · obtain ⟨u1, l1⟩ := old τ y hy q a
        rcases hO τ' y' hy' with ⟨hy', q'⟩ | ⟨rfl, rfl⟩
        · obtain ⟨u2, l2⟩ := old τ' y' hy' q' b
          exact h.odis τ τ' y y' g l1 l2 hy hy' hg hg'
        · exact absurd hg' (hne τ y hy u1 l1 g hg)
      · rcases hO τ' y' hy' with ⟨hy', q'⟩ | ⟨rfl, rfl⟩
        · obtain ⟨u2, l2⟩ := old τ' y' hy' q' b
          exact absurd hg (hne τ' y' hy' u2 l2 g hg')
        · rfl

end Go.Proofs.Ytehhgamkijkjgaa.AM
