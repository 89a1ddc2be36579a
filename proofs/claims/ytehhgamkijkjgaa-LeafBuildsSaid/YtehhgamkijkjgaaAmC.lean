/- The abstract machine (3): steps of the world: nothing, a box, a store, a literal row, an append. -/
import Derived.Test.YtehhgamkijkjgaaAmB
namespace Go.Proofs.Ytehhgamkijkjgaa.AM
open Go.RowKit
set_option linter.unusedVariables false
set_option linter.unusedSimpArgs false

theorem HS.congr {σ σ' : St} {w : World} {c : Cfg} (h : HS σ w c) (hm : σ'.mem = σ.mem) (hl : σ'.live = σ.live) : HS σ' w c :=
  ⟨h.kin, fun k cs hk => h.box k cs (by rw [← hm]; exact hk), h.mblk, h.minj, fun τ ht => h.own τ (by rw [← hl]; exact ht),
   fun τ τ' x x' g a b => h.odis τ τ' x x' g (by rw [← hl]; exact a) (by rw [← hl]; exact b)⟩

theorem HS.klt {σ : St} {w : World} {c : Cfg} (h : HS σ w c) {b o : Nat} {v : Value} (hk : c.K b o = some v) : b < w.heap.size :=
  World.block_lt_of_cell? w _ (h.kin b o v hk)

/-- An effect that touches nothing. -/
theorem stepF_same {σ : St} {w : World} {c : Cfg} (h : HS σ w c) (dst : Option Nat) (v : PV) (rd : List Key) :
    StepF σ dst { val := v, rd := rd } w w c c :=
  ⟨.refl c, rfl, rfl, rfl, Nat.le_refl _, fun _ _ _ => rfl, fun _ _ _ _ => rfl, fun _ _ hk => .inl hk, fun _ _ hk => .inl hk,
   h.congr (by simp [Eff.app, wrMem, Eff.alKeys]) (by simp [Eff.app, setLive, Eff.nwKeys])⟩

/-- A new box. -/
theorem stepF_box {σ : St} {w : World} {c : Cfg} (h : HS σ w c) (d : Nat) (v : PV) (cs : List PV) (arr : Array Value) (ty : TypeId)
    (hf : c.M (d, 0, σ.ep) = none) (hs : arr.size = cs.length) (hr : ∀ (j : Nat) (v : PV), cs[j]? = some v → ∃ x, arr[j]? = some x ∧ x.oneCell' = true ∧ RepP c v x) :
    StepF σ (some d) { val := v, al := [(0, cs)] } w (w.alloc (.cells arr ty)) c { c with M := upd c.M (d, 0, σ.ep) (some w.heap.size) } := by
  have hle : c.le { c with M := upd c.M (d, 0, σ.ep) (some w.heap.size) } := by
    refine ⟨fun _ _ _ x => x, fun k b hk => ?_, fun _ _ x => x⟩
    show upd c.M _ _ k = some b
    rw [upd_ne _ _ (fun e => by rw [e, hf] at hk; cases hk)]
    exact hk
  have hM : ∀ k b, upd c.M (d, 0, σ.ep) (some w.heap.size) k = some b → c.M k = some b ∨ (k = (d, 0, σ.ep) ∧ b = w.heap.size) := by
    intro k b hk
    by_cases e : k = (d, 0, σ.ep)
    · subst e; rw [upd_same] at hk; exact .inr ⟨rfl, (Option.some.inj hk).symm⟩
    · rw [upd_ne _ _ e] at hk; exact .inl hk
  refine ⟨hle, rfl, rfl, rfl, by simp, fun b hb _ => Below.heap_alloc _ _ _ hb, fun _ _ _ _ => rfl, ?_, fun _ _ x => .inl x, ?_⟩
  · intro k b hk
    rcases hM k b hk with hk | ⟨rfl, rfl⟩
    · exact .inl hk
    · exact .inr ⟨⟨0, cs, by simp, rfl⟩, Nat.le_refl _⟩
  · constructor
    · intro b o v hk
      exact (World.cell?_alloc_lt w _ _ (h.klt hk)).trans (h.kin b o v hk)
    · intro k cs' hk
      simp only [Eff.app, wrMem, Eff.alKeys, List.map_cons, List.map_nil, Option.getD_some] at hk
      by_cases e : k = (d, 0, σ.ep)
      · subst e
        rw [upd_same] at hk
        obtain rfl := Option.some.inj hk
        refine ⟨w.heap.size, ty, arr, upd_same _ _ _, heap_alloc_new w _, hs, fun j v hj => ?_⟩
        obtain ⟨x, h1, h2, h3⟩ := hr j v hj
        exact ⟨x, h1, h2, h3.mono hle⟩
      · rw [upd_ne _ _ e] at hk
        obtain ⟨b, t, ar, h1, h2, h3, h4⟩ := h.box k cs' hk
        refine ⟨b, t, ar, hle.M _ _ h1, (Below.heap_alloc _ _ _ (h.mblk k b h1).1).trans h2, h3, fun j v hj => ?_⟩
        obtain ⟨x, h5, h6, h7⟩ := h4 j v hj
        exact ⟨x, h5, h6, h7.mono hle⟩
    · intro k b hk
      rcases hM k b hk with hk | ⟨rfl, rfl⟩
      · exact ⟨by have := (h.mblk k b hk).1; simp; omega, (h.mblk k b hk).2⟩
      · refine ⟨by simp, fun o => ?_⟩
        cases ho : c.K w.heap.size o with
        | none => rfl
        | some v => exact absurd (h.klt ho) (Nat.lt_irrefl _)
    · intro k k' b hk hk'
      rcases hM k b hk with hk | ⟨rfl, rfl⟩ <;> rcases hM k' _ hk' with hk' | ⟨rfl, hb⟩
      · exact h.minj k k' b hk hk'
      · subst hb; exact absurd (h.mblk k _ hk).1 (Nat.lt_irrefl _)
      · exact absurd (h.mblk k' _ hk').1 (Nat.lt_irrefl _)
      · rfl
    · intro τ ht
      simp only [Eff.app, setLive, Eff.nwKeys, List.map_nil] at ht
      obtain ⟨x, e, sz, n, xs, h1, h2, h3⟩ := h.own τ ht
      refine ⟨x, e, sz, n, xs, h1, h2.alloc _, fun g hg => ⟨(h3 g hg).1, fun k hk => ?_⟩⟩
      rcases hM k g hk with hk | ⟨rfl, rfl⟩
      · exact (h3 g hg).2 k hk
      · exact absurd (h2.lt _ hg).2 (Nat.lt_irrefl _)
    · intro τ τ' x x' g a b
      simp only [Eff.app, setLive, Eff.nwKeys, List.map_nil] at a b
      exact h.odis τ τ' x x' g a b

theorem getElem?_setRow {α : Type} (cs new : List α) (off j : Nat) (h : off + new.length ≤ cs.length) :
    (cs.take off ++ new ++ cs.drop (off + new.length))[j]? = if off ≤ j ∧ j < off + new.length then new[j - off]? else cs[j]? := by
  rw [List.append_assoc]
  by_cases h1 : j < off
  · rw [List.getElem?_append_left (by simp; omega), List.getElem?_take, if_pos h1, if_neg (by omega)]
  · rw [List.getElem?_append_right (by simp; omega), List.length_take, show min off cs.length = off from by omega]
    by_cases h2 : j < off + new.length
    · rw [List.getElem?_append_left (by omega), if_pos (by omega)]
    · rw [List.getElem?_append_right (by omega), if_neg (by omega), List.getElem?_drop]
      congr 1
      omega

theorem getElem?_setR (cs new : List PV) (off j : Nat) (h : off + new.length ≤ cs.length) :
    (setR cs off new)[j]? = if off ≤ j ∧ j < off + new.length then new[j - off]? else cs[j]? := getElem?_setRow cs new off j h

/-- A box written. -/
theorem stepF_store {σ : St} {w : World} {c : Cfg} (h : HS σ w c) (dst : Option Nat) (v : PV) (k : Key) (b : Nat) (old new : List PV) (arr arr' : Array Value) (ty : TypeId) (rd : List Key)
    (hk : c.M k = some b) (hm : σ.mem k = some old) (hb : w.heap[b]? = some (.cells arr ty (0, 0)))
    (hs : arr'.size = new.length) (hr : ∀ (j : Nat) (v : PV), new[j]? = some v → ∃ x, arr'[j]? = some x ∧ x.oneCell' = true ∧ RepP c v x) :
    StepF σ dst { val := v, wr := [(k, new)], rd := rd } w (w.setRow b arr') c c := by
  refine ⟨.refl c, rfl, rfl, rfl, by simp, ?_, fun _ _ _ _ => rfl, fun _ _ x => .inl x, fun _ _ x => .inl x, ?_⟩
  · intro b' _ hn
    refine setRow_other w b b' arr' (fun e => hn (.inl ⟨(k, new), by simp, by rw [e]; exact hk⟩))
  · constructor
    · intro b' o v hK
      refine (cell_setRow_other w b arr' _ (fun e => ?_)).trans (h.kin b' o v hK)
      have := (h.mblk k b hk).2 o
      rw [← e] at this
      exact absurd hK (by rw [this]; simp)
    · intro k' cs hk'
      simp only [Eff.app, wrMem, Eff.alKeys, List.map_nil] at hk'
      by_cases e : k' = k
      · subst e
        rw [upd_same] at hk'
        obtain rfl := Option.some.inj hk'
        exact ⟨b, ty, arr', hk, setRow_heap w b arr arr' ty _ hb, hs, hr⟩
      · rw [upd_ne _ _ e] at hk'
        obtain ⟨b', t, ar, h1, h2, h3, h4⟩ := h.box k' cs hk'
        exact ⟨b', t, ar, h1, (setRow_other w b b' arr' (fun e' => e (h.minj k' k b (e' ▸ h1) hk))).trans h2, h3, h4⟩
    · intro k' b' hk'
      exact ⟨by have := (h.mblk k' b' hk').1; simpa using this, (h.mblk k' b' hk').2⟩
    · exact h.minj
    · intro τ ht
      simp only [Eff.app, setLive, Eff.nwKeys, List.map_nil] at ht
      obtain ⟨x, e, sz, n, xs, h1, h2, h3⟩ := h.own τ ht
      refine ⟨x, e, sz, n, xs, h1, h2.kept (row := some b) ⟨rfl, rfl, rfl, by simp, fun q _ hq => setRow_other w b q arr' (fun e => hq (by rw [e]))⟩ ?_, h3⟩
      cases hx : x.ownBlock with
      | none => exact .inl rfl
      | some g => exact .inr (fun e => (h3 g hx).2 k ((Option.some.inj e) ▸ hk))
    · intro τ τ' x x' g a b
      simp only [Eff.app, setLive, Eff.nwKeys, List.map_nil] at a b
      exact h.odis τ τ' x x' g a b

/-- An empty row of one's own. -/
theorem stepF_nil {σ : St} {w : World} {c : Cfg} (h : HS σ w c) (d : Nat) (v : PV) (e : TypeId) (sz : Nat) (hf : c.O (d, 0, σ.ep) = none) :
    StepF σ (some d) { val := v, nw := [0] } w w c { c with O := upd c.O (d, 0, σ.ep) (some (.slice none 0 0, e, sz)) } := by
  have hO : ∀ k x, upd c.O (d, 0, σ.ep) (some (.slice none 0 0, e, sz)) k = some x → (c.O k = some x ∧ k ≠ (d, 0, σ.ep)) ∨ (k = (d, 0, σ.ep) ∧ x = (.slice none 0 0, e, sz)) := by
    intro k x hk
    by_cases q : k = (d, 0, σ.ep)
    · subst q; rw [upd_same] at hk; exact .inr ⟨rfl, (Option.some.inj hk).symm⟩
    · rw [upd_ne _ _ q] at hk; exact .inl ⟨hk, q⟩
  have hle : c.le { c with O := upd c.O (d, 0, σ.ep) (some (.slice none 0 0, e, sz)) } := by
    refine ⟨fun _ _ _ x => x, fun _ _ x => x, fun k x hk => ?_⟩
    show upd c.O _ _ k = some x
    rw [upd_ne _ _ (fun q => by rw [q, hf] at hk; cases hk)]
    exact hk
  refine ⟨hle, rfl, rfl, rfl, Nat.le_refl _, fun _ _ _ => rfl, fun _ _ _ _ => rfl, fun _ _ x => .inl x, ?_, ?_⟩
  · intro τ x hx
    rcases hO τ x hx with ⟨hx, _⟩ | ⟨rfl, rfl⟩
    · exact .inl hx
    · exact .inr ⟨⟨0, by simp, rfl⟩, fun g hg => by simp [Value.ownBlock] at hg⟩
  · refine ⟨h.kin, ?_, h.mblk, h.minj, ?_, ?_⟩
    · intro k cs hk
      simp only [Eff.app, wrMem, Eff.alKeys, List.map_nil] at hk
      obtain ⟨b, t, ar, h1, h2, h3, h4⟩ := h.box k cs hk
      exact ⟨b, t, ar, h1, h2, h3, fun j v hj => let ⟨x, a, b, r⟩ := h4 j v hj; ⟨x, a, b, r.mono hle⟩⟩
    · intro τ ht
      simp only [Eff.app, setLive, Eff.nwKeys, List.map_cons, List.map_nil, Option.getD_some] at ht
      by_cases q : τ = (d, 0, σ.ep)
      · subst q
        exact ⟨_, e, sz, 0, [], upd_same _ _ _, World.ownsRow_nil w 0 e sz, fun g hg => by simp [Value.ownBlock] at hg⟩
      · rw [upd_ne _ _ q] at ht
        obtain ⟨x, e', sz', n, xs, h1, h2, h3⟩ := h.own τ ht
        exact ⟨x, e', sz', n, xs, hle.O _ _ h1, h2, h3⟩
    · intro τ τ' x x' g a b hx hx' hg hg'
      simp only [Eff.app, setLive, Eff.nwKeys, List.map_cons, List.map_nil, Option.getD_some] at a b
      rcases hO τ x hx with ⟨hx, q⟩ | ⟨rfl, rfl⟩
      · rcases hO τ' x' hx' with ⟨hx', q'⟩ | ⟨rfl, rfl⟩
        · rw [upd_ne _ _ q] at a; rw [upd_ne _ _ q'] at b
          exact h.odis τ τ' x x' g a b hx hx' hg hg'
        · simp [Value.ownBlock] at hg'
      · simp [Value.ownBlock] at hg

end Go.Proofs.Ytehhgamkijkjgaa.AM
