/- The abstract machine (20): calls that change what they are handed by pointers. -/
import Derived.Test.YtehhgamkijkjgaaAmU
namespace Go.Proofs.Ytehhgamkijkjgaa.AM
open Go.RowKit
set_option linter.unusedVariables false
set_option linter.unusedSimpArgs false
set_option linter.unusedSectionVars false

mutual
/-- Owned rows' names changed; those without a new name are data. -/
def ren (f : Key → Option Key) : PV → PV
  | .dat d => .dat d
  | .acc τ sz es => match f τ with | some k => .acc k sz es | none => .dat (.lst sz es)
  | .ptr k off => .ptr k off
  | .clo g cap => .clo g (renL f cap)
  | .mix cs => .mix (renL f cs)
def renL (f : Key → Option Key) : List PV → List PV
  | [] => []
  | v :: r => ren f v :: renL f r
end

mutual
def ptrIn (S : Key → Bool) : PV → Bool
  | .dat _ => true
  | .acc _ _ _ => true
  | .ptr k _ => S k
  | .clo _ cap => ptrInL S cap
  | .mix cs => ptrInL S cs
def ptrInL (S : Key → Bool) : List PV → Bool
  | [] => true
  | v :: r => ptrIn S v && ptrInL S r
end

theorem renL_length (f : Key → Option Key) : ∀ l : List PV, (renL f l).length = l.length
  | [] => by simp [renL]
  | v :: r => by simp [renL, renL_length f r]

theorem renL_get (f : Key → Option Key) : ∀ (l : List PV) (j : Nat), (renL f l)[j]? = (l[j]?).map (ren f)
  | [], j => by simp [renL]
  | v :: r, 0 => by simp [renL]
  | v :: r, j + 1 => by simp [renL, renL_get f r]

theorem ptrInL_get {S : Key → Bool} : ∀ {l : List PV}, ptrInL S l = true → ∀ {j : Nat} {v : PV}, l[j]? = some v → ptrIn S v = true
  | [], _, j, v, h => by simp at h
  | x :: r, hl, 0, v, h => by
    simp only [ptrInL, Bool.and_eq_true] at hl
    simp at h; subst h; exact hl.1
  | x :: r, hl, j + 1, v, h => by
    simp only [ptrInL, Bool.and_eq_true] at hl
    exact ptrInL_get hl.2 (by simpa using h)

theorem RepP.ren {c c2 : Cfg} {S : Key → Bool} {f : Key → Option Key} (hK : ∀ b o v, c.K b o = some v → c2.K b o = some v) (hM : ∀ k b, S k = true → c.M k = some b → c2.M k = some b)
    (hO : ∀ τ k x, f τ = some k → c.O τ = some x → c2.O k = some x) {v : PV} {x : Value} (h : RepP c v x) (hp : ptrIn S v = true) : RepP c2 (ren f v) x := by
  induction h with
  | dat d x r => rw [AM.ren]; exact .dat d x (r.mono hK)
  | acc τ sz es x e ho r =>
    rw [AM.ren]
    split
    · rename_i k hk; exact .acc k sz es x e (hO _ _ _ hk ho) (r.mono hK)
    · exact .dat _ _ (r.mono hK)
  | ptr k off b hm => rw [AM.ren]; exact .ptr k off b (hM _ _ hp hm)
  | clo g cap xs hl hh ih =>
    rw [AM.ren]
    refine .clo g _ xs (by rw [renL_length]; exact hl) (fun j v hj => ?_)
    rw [renL_get] at hj
    obtain ⟨v', h1, rfl⟩ := Option.map_eq_some_iff.1 hj
    exact ih j v' h1 (ptrInL_get hp h1)
  | mix cs vs hl ho hh ih =>
    rw [AM.ren]
    refine .mix _ vs (by rw [renL_length]; exact hl) (fun j v hj => ?_) (fun j v hj => ?_)
    · rw [renL_get] at hj
      obtain ⟨v', h1, rfl⟩ := Option.map_eq_some_iff.1 hj
      exact ho j v' h1
    · rw [renL_get] at hj
      obtain ⟨v', h1, rfl⟩ := Option.map_eq_some_iff.1 hj
      exact ih j v' h1 (ptrInL_get hp h1)

def initP : Nat → List PV → List (Nat × PV)
  | _, [] => []
  | k, d :: r => (k, d) :: initP (k + 1) r

theorem lookE_initP : ∀ (args : List PV) (k t : Nat) (v : PV), lookE (initP k args) t = some v → k ≤ t ∧ args[t - k]? = some v
  | [], _, _, _, h => by simp [initP, lookE] at h
  | d :: r, k, t, v, h => by
    simp only [initP, lookE] at h
    split at h
    · rename_i q
      subst q
      exact ⟨Nat.le_refl _, by simpa using h⟩
    · rename_i q
      obtain ⟨h1, h2⟩ := lookE_initP r (k + 1) t v h
      refine ⟨by omega, ?_⟩
      rw [show t - k = (t - (k + 1)) + 1 by omega, List.getElem?_cons_succ]
      exact h2

theorem wrMem_missK : ∀ (l : List (Key × List PV)) (m : Key → Option (List PV)) (k : Key), (∀ p ∈ l, p.1 ≠ k) → wrMem l m k = m k
  | [], _, _, _ => rfl
  | (k0, cs) :: r, m, k, h => by
    rw [wrMem, wrMem_missK r _ k (fun p hp => h p (by simp [hp]))]
    exact upd_ne _ _ (fun e => h (k0, cs) (by simp) e.symm)

theorem wrMem_hit : ∀ (l : List (Key × List PV)) (m : Key → Option (List PV)) (k : Key) (cs : List PV), wrMem l m k = some cs → (∃ p ∈ l, p.1 = k) → (k, cs) ∈ l
  | [], _, _, _, _, h => by simp at h
  | (k0, c0) :: r, m, k, cs, h, hk => by
    rw [wrMem] at h
    by_cases q : ∃ p ∈ r, p.1 = k
    · exact List.mem_cons_of_mem _ (wrMem_hit r _ k cs h q)
    · rw [wrMem_missK r _ k (fun p hp e => q ⟨p, hp, e⟩)] at h
      obtain ⟨p, hp, e⟩ := hk
      rcases List.mem_cons.1 hp with rfl | hp
      · have e : k0 = k := e
        subst e
        rw [upd_same] at h
        simp at h; subst h; exact List.mem_cons_self
      · exact absurd ⟨p, hp, e⟩ q

theorem setLive_eqK (v : Bool) : ∀ (l : List Key) (m : Key → Bool) (k : Key), setLive v l m k = if k ∈ l then v else m k
  | [], _, _ => by simp [setLive]
  | k0 :: r, m, k => by
    rw [setLive, setLive_eqK v r]
    by_cases q : k = k0
    · subst q; simp [upd]
    · simp [upd, q]

/-- The new names of a frame's rows. -/
def fout (d ep : Nat) : List (Key × Nat) → Key → Option Key
  | [], _ => none
  | (τ, i) :: r, k => if k = τ then some (d, i, ep) else fout d ep r k

theorem fout_mem {d ep : Nat} : ∀ {l : List (Key × Nat)} {k k' : Key}, fout d ep l k = some k' → ∃ i, (k, i) ∈ l ∧ k' = (d, i, ep)
  | [], _, _, h => by cases h
  | (τ, i) :: r, k, k', h => by
    unfold fout at h
    split at h
    · rename_i q; subst q; exact ⟨i, by simp, (Option.some.inj h).symm⟩
    · obtain ⟨i', h1, h2⟩ := fout_mem h; exact ⟨i', by simp [h1], h2⟩

/-- The ways out of a function that changes what it is handed. -/
def fnE (T : Tab) (fn : Func) (d ep : Nat) (S : Key → Bool) (out : List (Key × List PV)) (nw : List Nat) (r : DV) (s : LSt) : Prop :=
  resF T s fn.results.toList = some r ∧ ∃ nwl : List (Key × Nat), nwl.map (·.2) = nw ∧ (nwl.map (·.1)).Nodup ∧ (∀ p ∈ nwl, lookB s.live p.1 = true) ∧
    ∀ p ∈ out, ∃ cs, lookM s.mem p.1 = some cs ∧ ptrInL S cs = true ∧ p.2 = renL (fout d ep nwl) cs
def fnEQ (T : Tab) (fn : Func) (d ep : Nat) (S : Key → Bool) (out : List (Key × List PV)) (nw : List Nat) (r : DV) : Exit → LSt → Prop
  | .normal, s => fnE T fn d ep S out nw r s
  | .ret, s => fnE T fn d ep S out nw r s
  | _, _ => False

def keyIn (l : List (Key × List PV)) (k : Key) : Bool := l.any fun p => p.1 == k
def finK (lv : List Key) (τ : Key) : Option Key := if lv.contains τ then some τ else none

theorem keyIn_iff {l : List (Key × List PV)} {k : Key} : keyIn l k = true ↔ ∃ p ∈ l, p.1 = k := by
  simp [keyIn]

theorem ownsRow_keptB {w w' : World} {base : Nat} {e : TypeId} {size : Nat} {v : Value} {n : Nat} {xs : List Value} (h : w.ownsRow base e size v n xs) (hg : ∀ g, v.ownBlock = some g → w'.heap[g]? = w.heap[g]?) : w'.ownsRow base e size v n xs := by
  refine ⟨h.1, ?_⟩
  rcases h.2 with hn | ⟨g, cap, cur, rfl, hb, hgg, rest⟩
  · exact .inl hn
  · exact .inr ⟨g, cap, cur, rfl, hb, (hg g rfl).trans hgg, rest⟩

section
variable {P : Program} {T : Tab}

theorem lookM_mem : ∀ {l : List (Key × List PV)} {k : Key} {cs : List PV}, lookM l k = some cs → (k, cs) ∈ l
  | [], _, _, h => by cases h
  | (k0, c0) :: r, k, cs, h => by
    unfold lookM at h
    split at h
    · rename_i q; subst q; simp at h; subst h; exact List.mem_cons_self
    · exact List.mem_cons_of_mem _ (lookM_mem h)

theorem lookB_all {lv : List Key} {k : Key} (h : lookB (lv.map fun τ => (τ, true)) k = true) : k ∈ lv := by
  induction lv with
  | nil => cases h
  | cons a r ih =>
    simp only [List.map_cons, lookB] at h
    split at h
    · rename_i q; subst q; exact List.mem_cons_self
    · exact List.mem_cons_of_mem _ (ih h)

theorem CallE_of (hT : ∀ t i, T t = some i → i.Good P t) (hm : P.follows .mixedOrders = true) {g : FuncId} {fn : Func} {code : Code} {args : List PV} {rdm out : List (Key × List PV)} {lv : List Key} {d ep : Nat} {nw : List Nat} {r : DV}
    (hf : P.funcs[g]? = some fn) (hb : fn.body = some code) (he : EnterOk P g) (hn : args.length ≤ fn.ntmps)
    (hkeys : out.map (·.1) = rdm.map (·.1)) (hnd : nw.Nodup) (hargs : ptrInL (keyIn rdm) args = true) (hcells : ∀ p ∈ rdm, ptrInL (keyIn rdm) p.2 = true)
    (h : AWp P T fn.ntmps code (fnEQ T fn d ep (keyIn rdm) out nw r) ⟨initP 0 (renL (finK lv) args), rdm.map (fun p => (p.1, renL (finK lv) p.2)), lv.map (fun τ => (τ, true)), ep⟩) :
    CallE P g args rdm d ep { val := .dat r, wr := out, rd := rdm.map (·.1), use := lv, nw := nw } := by
  refine ⟨he, rfl, ?_⟩
  intro σ w c xs hep hrd huse hs hfr hx
  refine calls_of_wp hf hb ?_
  have hS : ∀ k, keyIn rdm k = true → ∃ b, c.M k = some b := by
    intro k hk
    obtain ⟨p, hp, rfl⟩ := keyIn_iff.1 hk
    obtain ⟨b, _, _, h1, _⟩ := hs.box p.1 p.2 (hrd p hp)
    exact ⟨b, h1⟩
  let c0 : Cfg := { K := c.K, M := fun k => if keyIn rdm k then c.M k else none, O := fun k => if lv.contains k then c.O k else none }
  have c0M : ∀ k b, c0.M k = some b ↔ keyIn rdm k = true ∧ c.M k = some b := by
    intro k b
    show (if keyIn rdm k then c.M k else none) = some b ↔ _
    split <;> simp [*]
  have c0O : ∀ k x, c0.O k = some x ↔ k ∈ lv ∧ c.O k = some x := by
    intro k x
    show (if lv.contains k then c.O k else none) = some x ↔ _
    split <;> simp_all
  let fp : Nat → Prop := fun b => (∃ k, keyIn rdm k = true ∧ c.M k = some b) ∨ ∃ τ ∈ lv, ∃ x, c.O τ = some x ∧ x.1.ownBlock = some b
  have hfpt : ∀ b, fp b → touched { val := .dat r, wr := out, rd := rdm.map (·.1), use := lv, nw := nw } c b := by
    rintro b (⟨k, hk, hb⟩ | h1)
    · obtain ⟨p, hp, rfl⟩ := keyIn_iff.1 hk
      have : p.1 ∈ out.map (·.1) := by rw [hkeys]; exact List.mem_map_of_mem hp
      obtain ⟨q, hq, e⟩ := List.mem_map.1 this
      exact .inl ⟨q, hq, by rw [e]; exact hb⟩
    · exact .inr h1
  have hin : ∀ {v : PV} {x : Value}, RepP c v x → ptrIn (keyIn rdm) v = true → RepP c0 (ren (finK lv) v) x := by
    intro v x hv hp
    refine RepP.ren (c := c) (c2 := c0) (S := keyIn rdm) (fun _ _ _ q => q) (fun k b hk hb => (c0M k b).2 ⟨hk, hb⟩) (fun τ k y hk hy => ?_) hv hp
    unfold finK at hk
    split at hk
    · rename_i q
      obtain rfl := Option.some.inj hk
      exact (c0O _ _).2 ⟨by simpa using q, hy⟩
    · cases hk
  have hs0 : HS (LSt.mk (initP 0 (renL (finK lv) args)) (rdm.map (fun p => (p.1, renL (finK lv) p.2))) (lv.map (fun τ => (τ, true))) ep).den w c0 := by
    refine ⟨hs.kin, fun k cs hk => ?_, fun k b hk => ?_, fun k k' b h1 h2 => hs.minj k k' b ((c0M k b).1 h1).2 ((c0M k' b).1 h2).2, fun τ ht => ?_, fun τ τ' x x' g h1 h2 h3 h4 h5 h6 => ?_⟩
    · have hk := lookM_mem (show lookM _ k = some cs from hk)
      obtain ⟨p, hp, e⟩ := List.mem_map.1 hk
      obtain ⟨rfl, rfl⟩ := Prod.mk.inj e
      obtain ⟨b, ty, arr, h1, h2, h3, h4⟩ := hs.box p.1 p.2 (hrd p hp)
      refine ⟨b, ty, arr, (c0M _ _).2 ⟨keyIn_iff.2 ⟨p, hp, rfl⟩, h1⟩, h2, by rw [h3, renL_length], fun j v hj => ?_⟩
      rw [renL_get] at hj
      obtain ⟨v', h5, rfl⟩ := Option.map_eq_some_iff.1 hj
      obtain ⟨x, h6, h7, h8⟩ := h4 j v' h5
      exact ⟨x, h6, h7, hin h8 (ptrInL_get (hcells p hp) h5)⟩
    · exact hs.mblk k b ((c0M k b).1 hk).2
    · have ht := lookB_all (show lookB _ τ = true from ht)
      obtain ⟨x, e, sz, n, ys, h1, h2, h3⟩ := hs.own τ (huse τ ht)
      exact ⟨x, e, sz, n, ys, (c0O _ _).2 ⟨ht, h1⟩, h2, fun g hg => ⟨(h3 g hg).1, fun k hk => (h3 g hg).2 k ((c0M k g).1 hk).2⟩⟩
    · exact hs.odis τ τ' x x' g (huse _ ((c0O _ _).1 h3).1) (huse _ ((c0O _ _).1 h4).1) ((c0O _ _).1 h3).2 ((c0O _ _).1 h4).2 h5 h6
  have hsim : SimL fn.ntmps fp w c0 (LSt.mk (initP 0 (renL (finK lv) args)) (rdm.map (fun p => (p.1, renL (finK lv) p.2))) (lv.map (fun τ => (τ, true))) ep) { tmps := xs ++ Array.replicate (fn.ntmps - xs.size) undef, defers := [] } w c0 := by
    refine ⟨⟨hs0, fun t v hv => ?_, ⟨rfl, rfl, rfl, Nat.le_refl _, fun _ _ _ => rfl, fun _ _ _ _ => rfl, fun _ _ _ h => h, fun k b hk => .inr (.inl ⟨k, (c0M k b).1 hk⟩), fun τ x hx g hg => .inr (.inr ⟨τ, ((c0O τ x).1 hx).1, x, ((c0O τ x).1 hx).2, hg⟩), Cfg.le.refl _, fun k b hk => .inl hk⟩, rfl, ?_⟩, fun k b hk => ?_, fun k x hk => ?_⟩
    · obtain ⟨h1, h2⟩ := lookE_initP _ 0 t v (show lookE _ t = some v from hv)
      rw [Nat.sub_zero, renL_get] at h2
      obtain ⟨v', h3, rfl⟩ := Option.map_eq_some_iff.1 h2
      have hlt : t < xs.size := by rw [hx.1]; exact (List.getElem?_eq_some_iff.1 h3).1
      exact ⟨xs.getD t undef, by simp [Array.getElem?_append_left hlt, hlt], hin (hx.2 t v' h3) (ptrInL_get hargs h3)⟩
    · simp [hx.1]; omega
    · rcases Nat.lt_or_ge ep k.2.2 with q | q
      · exact absurd ((hfr.2 k q).1) (by rw [((c0M k b).1 hk).2]; simp)
      · rcases Nat.lt_or_eq_of_le q with q | q
        · exact .inl q
        · exact .inr ⟨q, trivial⟩
    · rcases Nat.lt_or_ge ep k.2.2 with q | q
      · exact absurd ((hfr.2 k q).2) (by rw [((c0O k x).1 hk).2]; simp)
      · rcases Nat.lt_or_eq_of_le q with q | q
        · exact .inl q
        · exact .inr ⟨q, trivial⟩
  refine wp_mono (AWp_sound hT hm code _ _ h _ w _ hsim) ?_
  rintro e a w' ⟨s, c', hq, hsm⟩
  have fin : fnE T fn d ep (keyIn rdm) out nw r s → a.defers = [] ∧ ∃ v, (results fn a.tmps).run P w' = .ok v w' ∧
      ∃ v' c2, Ending.returned v = .returned v' ∧ RepP c2 (.dat r) v' ∧ StepF σ (some d) { val := .dat r, wr := out, rd := rdm.map (·.1), use := lv, nw := nw } w w' c c2 := by
    rintro ⟨hd, nwl, hnw, hnd2, hlive, hout⟩
    obtain ⟨v, h1, h2⟩ := resF_sound hT hsm hd
    have hfr' := hsm.1.fr
    have hs' := hsm.1.hs
    let c2 : Cfg := { K := c'.K, M := c.M, O := fun k => match nwl.find? (fun p => (d, p.2, ep) == k) with | some p => c'.O p.1 | none => c.O k }
    have hnwk : ∀ {p : Key × Nat}, p ∈ nwl → c2.O (d, p.2, ep) = c'.O p.1 := by
      intro p hp
      show (match nwl.find? (fun q => (d, q.2, ep) == (d, p.2, ep)) with | some p => c'.O p.1 | none => c.O _) = _
      have : nwl.find? (fun q => ((d, q.2, ep) : Key) == (d, p.2, ep)) = some p := by
        rw [← hnw] at hnd
        clear hnw hnd2 hlive hout
        induction nwl with
        | nil => simp at hp
        | cons q r ih =>
          simp only [List.map_cons, List.nodup_cons] at hnd
          rw [List.find?_cons]
          rcases List.mem_cons.1 hp with rfl | hp
          · simp
          · have : q.2 ≠ p.2 := fun e => hnd.1 (by rw [e]; exact List.mem_map_of_mem hp)
            have : (((d, q.2, ep) : Key) == (d, p.2, ep)) = false := by simp [this]
            rw [this]
            exact ih hnd.2 hp
      rw [this]
    have hold : ∀ {k : Key}, (∀ p ∈ nwl, (d, p.2, ep) ≠ k) → c2.O k = c.O k := by
      intro k hk
      show (match nwl.find? (fun q => (d, q.2, ep) == k) with | some p => c'.O p.1 | none => c.O k) = _
      have : nwl.find? (fun q => ((d, q.2, ep) : Key) == k) = none := by
        rw [List.find?_eq_none]
        intro p hp
        have := hk p hp
        simpa using this
      rw [this]
    have hle : c.le c2 := by
      refine ⟨fun b o v hk => hfr'.le0.K b o v hk, fun _ _ q => q, fun k x hk => ?_⟩
      rw [hold]
      · exact hk
      · rintro p hp rfl
        rw [(hfr.1 p.2).2] at hk; cases hk
    have hMS : ∀ k b, keyIn rdm k = true → c'.M k = some b → c.M k = some b := by
      intro k b hk hb
      obtain ⟨b0, hb0⟩ := hS k hk
      have := hfr'.le0.M k b0 ((c0M k b0).2 ⟨hk, hb0⟩)
      rw [hb] at this
      rw [hb0]; exact this.symm
    have hoB : ∀ τ x, c'.O τ = some x → ∀ g, x.1.ownBlock = some g → w.heap.size ≤ g ∨ fp g := hfr'.oB
    have hnfp : ∀ τ, σ.live τ = true → τ ∉ lv → ∀ x, c.O τ = some x → ∀ g, x.1.ownBlock = some g → ¬ fp g := by
      rintro τ ht hτ x hx g hg (⟨k, hk, hb⟩ | ⟨τ', hτ', x', hx', hg'⟩)
      · obtain ⟨y, e, sz, n, ys, g1, g2, g3⟩ := hs.own τ ht
        rw [hx] at g1
        obtain rfl := Option.some.inj g1
        exact (g3 g hg).2 k hb
      · have := hs.odis τ τ' x x' g ht (huse τ' hτ') hx hx' hg hg'
        subst this; exact hτ hτ'
    have hwr : ∀ {k}, keyIn rdm k = true → ∃ p ∈ out, p.1 = k := by
      intro k hk
      obtain ⟨p, hp, rfl⟩ := keyIn_iff.1 hk
      have : p.1 ∈ out.map (·.1) := by rw [hkeys]; exact List.mem_map_of_mem hp
      obtain ⟨q, hq, e⟩ := List.mem_map.1 this
      exact ⟨q, hq, e⟩
    have hrw : ∀ {k}, (∃ p ∈ out, p.1 = k) → keyIn rdm k = true := by
      rintro k ⟨p, hp, rfl⟩
      have : p.1 ∈ rdm.map (·.1) := by rw [← hkeys]; exact List.mem_map_of_mem hp
      obtain ⟨q, hq, e⟩ := List.mem_map.1 this
      exact keyIn_iff.2 ⟨q, hq, e⟩
    refine ⟨hsm.1.nodef, v, h1, v, c2, rfl, .dat _ _ h2, hle, hfr'.os, hfr'.tape, hfr'.output, hfr'.size, fun b hb ht => hfr'.blk b hb (fun q => ht (hfpt b q)), fun b o hb ht => hfr'.kn b o hb (fun q => ht (hfpt b q)), fun k b hk => .inl hk, fun τ x hx => ?_, ?_⟩
    · by_cases q : ∃ p ∈ nwl, (d, p.2, ep) = τ
      · obtain ⟨p, hp, rfl⟩ := q
        rw [hnwk hp] at hx
        refine .inr ⟨⟨p.2, by show p.2 ∈ nw; rw [← hnw]; exact List.mem_map_of_mem hp, by rw [hep]; rfl⟩, fun g hg => (hoB _ _ hx g hg).imp id (hfpt g)⟩
      · rw [hold (fun p hp e => q ⟨p, hp, e⟩)] at hx
        exact .inl hx
    · have hlv : ∀ τ, (Eff.app (some d) { val := .dat r, wr := out, rd := rdm.map (·.1), use := lv, nw := nw } σ).live τ = true → (∃ p ∈ nwl, τ = (d, p.2, ep)) ∨ (σ.live τ = true ∧ τ ∉ lv ∧ ∀ p ∈ nwl, (d, p.2, ep) ≠ τ) := by
        intro τ ht
        simp only [Eff.app, setLive_eqK] at ht
        by_cases q : ∃ p ∈ nwl, τ = (d, p.2, ep)
        · exact .inl q
        · have hnk : τ ∉ Eff.nwKeys ((some d).getD 0) σ.ep { val := .dat r, wr := out, rd := rdm.map (·.1), use := lv, nw := nw } := by
            intro hk
            simp only [Eff.nwKeys, Option.getD_some, List.mem_map] at hk
            obtain ⟨i, hi, e⟩ := hk
            rw [← hnw] at hi
            obtain ⟨p, hp, rfl⟩ := List.mem_map.1 hi
            exact q ⟨p, hp, by rw [← e, hep]⟩
          rw [if_neg hnk] at ht
          split at ht
          · cases ht
          · rename_i hu
            exact .inr ⟨ht, hu, fun p hp e => q ⟨p, hp, e.symm⟩⟩
      refine ⟨hs'.kin, fun k cs hk => ?_, fun k b hk => ?_, hs.minj, fun τ ht => ?_, fun τ τ' x x' g ht ht' hx hx' hg hg' => ?_⟩
      · simp only [Eff.app, Eff.alKeys, List.map_nil, wrMem] at hk
        by_cases q : ∃ p ∈ out, p.1 = k
        · have hmem := wrMem_hit _ _ _ _ hk q
          obtain ⟨cs', g1, g2, g3⟩ := hout _ hmem
          obtain ⟨b, ty, arr, g4, g5, g6, g7⟩ := hs'.box k cs' g1
          refine ⟨b, ty, arr, hMS k b (hrw q) g4, g5, ?_, fun j v hj => ?_⟩
          · have g3 : cs = renL (fout d ep nwl) cs' := g3
            rw [g3, renL_length]; exact g6
          · have g3 : cs = renL (fout d ep nwl) cs' := g3
            rw [g3, renL_get] at hj
            obtain ⟨v', g8, rfl⟩ := Option.map_eq_some_iff.1 hj
            obtain ⟨x, g9, g10, g11⟩ := g7 j v' g8
            refine ⟨x, g9, g10, RepP.ren (c := c') (c2 := c2) (S := keyIn rdm) (fun _ _ _ q => q) hMS (fun τ k' y hk' hy => ?_) g11 (ptrInL_get g2 g8)⟩
            obtain ⟨i, hi, rfl⟩ := fout_mem hk'
            rw [hnwk hi]; exact hy
        · rw [wrMem_missK _ _ _ (fun p hp e => q ⟨p, hp, e⟩)] at hk
          obtain ⟨b, ty, arr, g4, g5, g6, g7⟩ := hs.box k cs hk
          have hlt := (hs.mblk k b g4).1
          have : ¬ fp b := by
            rintro (⟨k', hk', hb⟩ | ⟨τ', hτ', x', hx', hg'⟩)
            · exact q (hwr (by rw [hs.minj k k' b g4 hb]; exact hk'))
            · obtain ⟨y, e, sz, n, ys, q1, q2, q3⟩ := hs.own τ' (huse τ' hτ')
              rw [hx'] at q1
              obtain rfl := Option.some.inj q1
              exact (q3 b hg').2 k g4
          refine ⟨b, ty, arr, g4, (hfr'.blk b hlt this).trans g5, g6, fun j v hj => ?_⟩
          obtain ⟨x, g8, g9, g10⟩ := g7 j v hj
          exact ⟨x, g8, g9, g10.mono hle⟩
      · have hlt := (hs.mblk k b hk).1
        refine ⟨Nat.lt_of_lt_of_le hlt hfr'.size, fun o => ?_⟩
        show c'.K b o = none
        by_cases q : keyIn rdm k = true
        · obtain ⟨b0, hb0⟩ := hS k q
          rw [show c.M k = some b from hk] at hb0
          obtain rfl := Option.some.inj hb0
          exact (hs'.mblk k b (hfr'.le0.M k b ((c0M k b).2 ⟨q, hk⟩))).2 o
        · have : ¬ fp b := by
            rintro (⟨k', hk', hb⟩ | ⟨τ', hτ', x', hx', hg'⟩)
            · exact q (by rw [hs.minj k k' b hk hb]; exact hk')
            · obtain ⟨y, e, sz, n, ys, q1, q2, q3⟩ := hs.own τ' (huse τ' hτ')
              rw [hx'] at q1
              obtain rfl := Option.some.inj q1
              exact (q3 b hg').2 k hk
          rw [hfr'.kn b o hlt this]
          exact (hs.mblk k b hk).2 o
      · rcases hlv τ ht with ⟨p, hp, rfl⟩ | ⟨h3, h4, h5⟩
        · obtain ⟨x, e, sz, n, ys, g1, g2, g3⟩ := hs'.own p.1 (hlive p hp)
          refine ⟨x, e, sz, n, ys, by rw [hnwk hp]; exact g1, g2, fun g hg => ⟨(g3 g hg).1, fun k hk => ?_⟩⟩
          have hk : c.M k = some g := hk
          have hlt := (hs.mblk k g hk).1
          rcases hoB _ _ g1 g hg with q | (⟨k', hk', hb⟩ | ⟨τ', hτ', x', hx', hg'⟩)
          · omega
          · exact (g3 g hg).2 k' (hfr'.le0.M k' g ((c0M k' g).2 ⟨hk', hb⟩))
          · obtain ⟨y, e, sz, n, ys, q1, q2, q3⟩ := hs.own τ' (huse τ' hτ')
            rw [hx'] at q1
            obtain rfl := Option.some.inj q1
            exact (q3 g hg').2 k hk
        · obtain ⟨x, e, sz, n, ys, g1, g2, g3⟩ := hs.own τ h3
          refine ⟨x, e, sz, n, ys, by rw [hold h5]; exact g1, ownsRow_keptB g2 (fun g hg => hfr'.blk g (g2.lt g hg).2 (hnfp τ h3 h4 _ g1 g hg)), fun g hg => ⟨fun o v hk => ?_, (g3 g hg).2⟩⟩
          · have hlt := (g2.lt g hg).2
            rw [show c2.K g o = c.K g o from hfr'.kn g o hlt (hnfp τ h3 h4 _ g1 g hg)] at hk
            exact (g3 g hg).1 o v hk
      · rcases hlv τ ht with ⟨p, hp, rfl⟩ | ⟨h3, h4, h5⟩ <;> rcases hlv τ' ht' with ⟨p', hp', rfl⟩ | ⟨h3', h4', h5'⟩
        · rw [hnwk hp] at hx
          rw [hnwk hp'] at hx'
          have := hs'.odis p.1 p'.1 x x' g (hlive p hp) (hlive p' hp') hx hx' hg hg'
          have : p = p' := by
            clear hnw hout hlive hnwk hold hle
            clear_value c2
            clear ht ht' hx hx' hlv hoB
            induction nwl with
            | nil => simp at hp
            | cons q r ih =>
              simp only [List.map_cons, List.nodup_cons] at hnd2
              rcases List.mem_cons.1 hp with e1 | hq
              · rcases List.mem_cons.1 hp' with e2 | hq'
                · rw [e1, e2]
                · have hmm := List.mem_map_of_mem (f := fun x : Key × Nat => x.1) hq'
                  simp only [← this, e1] at hmm
                  exact absurd hmm hnd2.1
              · rcases List.mem_cons.1 hp' with e2 | hq'
                · have hmm := List.mem_map_of_mem (f := fun x : Key × Nat => x.1) hq
                  simp only [this, e2] at hmm
                  exact absurd hmm hnd2.1
                · exact ih hnd2.2 hq hq'
          rw [this]
        · exfalso
          rw [hnwk hp] at hx
          rw [hold h5'] at hx'
          have hlt : g < w.heap.size := by
            obtain ⟨y, e, sz, n, ys, q1, q2, q3⟩ := hs.own τ' h3'
            rw [hx'] at q1
            obtain rfl := Option.some.inj q1
            exact (q2.lt g hg').2
          rcases hoB _ _ hx g hg with q | q
          · omega
          · exact hnfp τ' h3' h4' x' hx' g hg' q
        · exfalso
          rw [hnwk hp'] at hx'
          rw [hold h5] at hx
          have hlt : g < w.heap.size := by
            obtain ⟨y, e, sz, n, ys, q1, q2, q3⟩ := hs.own τ h3
            rw [hx] at q1
            obtain rfl := Option.some.inj q1
            exact (q2.lt g hg).2
          rcases hoB _ _ hx' g hg' with q | q
          · omega
          · exact hnfp τ h3 h4 x hx g hg q
        · rw [hold h5] at hx
          rw [hold h5'] at hx'
          exact hs.odis τ τ' x x' g h3 h3' hx hx' hg hg'
  cases e with
  | normal => exact fin hq
  | ret => exact fin hq
  | _ => exact hq.elim

theorem entM_sound : ∀ {rdm m : List (Key × List PV)}, entM rdm m → ∀ p ∈ rdm, lookM m p.1 = some p.2
  | [], _, _, p, hp => by simp at hp
  | (k, v) :: r, m, h, p, hp => by
    rcases List.mem_cons.1 hp with rfl | hp
    · exact h.1
    · exact entM_sound h.2 p hp

def entU : List Key → List (Key × Bool) → Prop
  | [], _ => True
  | k :: r, m => lookB m k = true ∧ entU r m
theorem entU_sound : ∀ {l : List Key} {m : List (Key × Bool)}, entU l m → ∀ k ∈ l, lookB m k = true
  | [], _, _, p, hp => by simp at hp
  | k :: r, m, h, p, hp => by
    rcases List.mem_cons.1 hp with rfl | hp
    · exact h.1
    · exact entU_sound h.2 p hp

/-- A call that changes what it is handed. -/
theorem rl_callE {ops : Array Oper} {o : Oper} {l : List Oper} {env : List (Nat × PV)} {mem : List (Key × List PV)} {live : List (Key × Bool)} {ep : Nat} {K : LSt → List Eff → Prop} {d : Nat} {g : FuncId} {args args' : List PV} {rdm : List (Key × List PV)} {e : Eff}
    (hE : CallE P g args rdm d ep e) (hg : o.guard = none) (hd : o.dst = some d) (h : opOut T o (LSt.mk env mem live ep).den = .call g args') (ha : args' = args) (hm : entM rdm mem) (hu : entU e.use live)
    (hk : RunL P T ops l (appL (some d) e ⟨env, mem, live, ep⟩) fun s' es => K s' (e :: es)) : RunL P T ops (o :: l) ⟨env, mem, live, ep⟩ K := by
  subst ha
  refine rl_step hg ?_
  unfold OpK
  rw [h]
  simp only [Out.holds]
  rw [hd]
  exact ⟨d, rdm, e, rfl, fun p hp => entM_sound hm p hp, fun τ hτ => entU_sound hu τ hτ, hE, hk⟩

theorem pk_case {ops : Array Oper} {l : List Oper} {env : List (Nat × PV)} {mem : List (Key × List PV)} {live : List (Key × Bool)} {ep : Nat} {K : LSt → List Eff → Prop} {d : Nat} {c x y : Operand} {ty : TypeId} {pos : String} {after : Array Edge} {b : Bool}
    (hc : evalO (LSt.mk env mem live ep).den c = some (.dat (.bool b)))
    (h1 : b = true → RunL P T ops ({ dst := some d, op := .pick c x y, type := ty, pos := pos, after := after, guard := none } :: l) ⟨env, mem, live, ep⟩ K)
    (h2 : b = false → RunL P T ops ({ dst := some d, op := .pick c x y, type := ty, pos := pos, after := after, guard := none } :: l) ⟨env, mem, live, ep⟩ K) :
    RunL P T ops ({ dst := some d, op := .pick c x y, type := ty, pos := pos, after := after, guard := none } :: l) ⟨env, mem, live, ep⟩ K := by
  cases b
  · exact h2 rfl
  · exact h1 rfl
end
end Go.Proofs.Ytehhgamkijkjgaa.AM
