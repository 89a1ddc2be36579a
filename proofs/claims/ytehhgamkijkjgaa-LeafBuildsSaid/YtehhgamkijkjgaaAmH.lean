/- The abstract machine (8): rows, literals, builtins, calls. -/
import Derived.Test.YtehhgamkijkjgaaAmG
namespace Go.Proofs.Ytehhgamkijkjgaa.AM
open Go.RowKit
set_option linter.unusedVariables false
set_option linter.unusedSimpArgs false
set_option linter.unusedSectionVars false

section
variable {P : Program} {T : Tab} {o : Oper} {σ : St} {a : Act} {w : World} {c : Cfg} {e : Eff} {K : Act → World → Prop} {Q : Exit → Act → World → Prop}

theorem run_slice_lo {σ : St} {a : Act} {c : Cfg} (he : EnvOk σ a c) {lo : Option Operand} {l : Int} {h : Nat} (hl : wordO σ lo 0 = some l) (h0 : 0 ≤ l) (h1 : l ≤ h) (code : BoundsCode) (w : World) :
    (match lo.map a.eval with | some v => Instr.sliceBound v h code | none => pure 0 : Sem Nat).run P w = .ok l.toNat w := by
  cases lo with
  | none => simp [wordO] at hl; subst hl; simp
  | some y =>
    obtain ⟨k, hk⟩ := wordO_sound he hl
    simp only [Option.map_some, hk]
    exact run_sliceBound w k l h _ (by omega) (by omega)

theorem run_slice_hi {σ : St} {a : Act} {c : Cfg} (he : EnvOk σ a c) {hi : Option Operand} {h : Int} {len cap : Nat} (hh : wordO σ hi len = some h) (h0 : 0 ≤ h) (h1 : h ≤ len) (hc : len ≤ cap) (code : BoundsCode) (w : World) :
    (match hi.map a.eval with | some v => Instr.sliceBound v cap code | none => pure len : Sem Nat).run P w = .ok h.toNat w := by
  cases hi with
  | none => simp [wordO] at hh; subst hh; simp
  | some y =>
    obtain ⟨k, hk⟩ := wordO_sound he hh
    simp only [Option.map_some, hk]
    exact run_sliceBound w k h cap _ (by omega) (by omega)

theorem run_sliceBounds' {σ : St} {a : Act} {c : Cfg} (he : EnvOk σ a c) {lo hi : Option Operand} {l h : Int} {len cap : Nat} (isS : Bool) (hl : wordO σ lo 0 = some l) (hh : wordO σ hi len = some h) (hb : 0 ≤ l ∧ l ≤ h ∧ h ≤ len) (hc : len ≤ cap) (w : World) :
    (Instr.sliceBounds isS len cap (lo.map a.eval) (hi.map a.eval) none).run P w = .ok (l.toNat, h.toNat, cap) w := by
  have h1 := fun code => run_slice_hi (P := P) he hh (by omega) hb.2.2 hc code w
  have h2 := fun code => run_slice_lo (P := P) (h := h.toNat) he hl hb.1 (by omega) code w
  simp only [Instr.sliceBounds, Sem.run_bind, Sem.run_pure, Result.andThen_ok]
  cases hi with
  | none =>
    have h1 := h1 .sliceAlen
    simp only [Option.map_none] at h1 ⊢
    rw [Sem.run_bind, h1, Result.andThen_ok]
    simp only [Option.isSome_none, Bool.false_eq_true, if_false]
    have h2 := h2 .sliceB
    cases lo with
    | none => simp only [Option.map_none] at h2 ⊢; rw [Sem.run_bind, h2]; rfl
    | some z => simp only [Option.map_some] at h2 ⊢; rw [Sem.run_bind, h2]; rfl
  | some y =>
    have h1 := h1 (if isS = true then .sliceAcap else .sliceAlen)
    simp only [Option.map_some] at h1 ⊢
    rw [Sem.run_bind, h1, Result.andThen_ok]
    simp only [Option.isSome_none, Bool.false_eq_true, if_false]
    have h2 := h2 .sliceB
    cases lo with
    | none => simp only [Option.map_none] at h2 ⊢; rw [Sem.run_bind, h2]; rfl
    | some z => simp only [Option.map_some] at h2 ⊢; rw [Sem.run_bind, h2]; rfl

variable (hs : HS σ w c) (he : EnvOk σ a c)
include hs he

theorem sound_slice_lst (hT : ∀ t i, T t = some i → i.Good P t) {t e : TypeId} {sz bytes : Nat} {x : Operand} {lo hi : Option Operand} {es : List (List DV)} {l h : Int} (ho : o.op = .slice t x lo hi none) (ht : tyOf T t = .slice e sz bytes) (hx : evalD σ x = some (.lst sz es))
    (hl : wordO σ lo 0 = some l) (hh : wordO σ hi es.length = some h) (hb : 0 ≤ l ∧ l ≤ h ∧ h ≤ es.length) (hn : Next σ o a w c K { val := .dat (.lst sz ((es.take h.toNat).drop l.toNat)) }) : o.wp P a w K Q := by
  obtain ⟨h1, h2, ie, z, h3, h4, _⟩ := und_slice hT ht
  have hp := evalD_sound he hx
  generalize hu : a.eval x = u at hp
  have hget : ∀ (i : Nat) (r : List DV), ((es.take h.toNat).drop l.toNat)[i]? = some r → es[l.toNat + i]? = some r := by
    intro i r hr
    simp only [List.getElem?_drop, List.getElem?_take] at hr
    split at hr
    · exact hr
    · cases hr
  have hlen : ((es.take h.toNat).drop l.toNat).length = h.toNat - l.toNat := by simp; omega
  cases hp with
  | nils =>
    simp at hb
    obtain rfl : l = 0 := by omega
    obtain rfl : h = 0 := by omega
    refine wp_value (rd := []) hs (x := .slice none 0 0) ?_ (.dat _ _ (by simpa using RepD.nils sz)) hn
    have hbd := run_sliceBounds' (P := P) (len := 0) (cap := 0) he true hl hh (by omega) (Nat.le_refl _) w
    simp only [execOp, ho]
    apply run_v
    simp [Instr.sliceAt, run_underlying h1 w, hu, Instr.slice, hbd, run_sizeOf_info h3 w]
  | emp _ ad =>
    simp at hb
    obtain rfl : l = 0 := by omega
    obtain rfl : h = 0 := by omega
    refine wp_value (rd := []) hs (x := .slice (some ad) 0 0) ?_ (.dat _ _ (by simpa using RepD.emp sz ad)) hn
    have hbd := run_sliceBounds' (P := P) (len := 0) (cap := 0) he true hl hh (by omega) (Nat.le_refl _) w
    simp only [execOp, ho]
    apply run_v
    simp [Instr.sliceAt, run_underlying h1 w, hu, Instr.slice, hbd, run_sizeOf_info h3 w]
  | lst _ _ b o' cap f g1 g2 gs gk go gr =>
    have hbd := run_sliceBounds' (P := P) (len := es.length) (cap := cap) he true hl hh hb g1 w
    have hres : RepD c.K (.lst sz ((es.take h.toNat).drop l.toNat)) (.slice (if cap = l.toNat then some ⟨b, o', none⟩ else some ⟨b, o' + l.toNat * sz, none⟩) (h.toNat - l.toNat) (cap - l.toNat)) := by
      rw [← hlen]
      have hsz : ∀ r ∈ (es.take h.toNat).drop l.toNat, r.length = sz := fun r hr => gs r (List.mem_of_mem_take (List.mem_of_mem_drop hr))
      by_cases hc : cap = l.toNat
      · rw [if_pos hc]
        have he' : (es.take h.toNat).drop l.toNat = [] := List.eq_nil_of_length_eq_zero (by rw [hlen]; omega)
        rw [he']
        exact .lst _ _ _ _ _ f (by simp) (by omega) (by simp) (fun i r hr => by simp at hr) (fun i r hr => by simp at hr) (fun i r hr => by simp at hr)
      · rw [if_neg hc]
        refine .lst _ _ _ _ _ (fun i j => f (l.toNat + i) j) (by rw [hlen]; omega) (by omega) hsz (fun i r hr j d hd => ?_) (fun i r hr j d hd => go _ _ (hget i r hr) j d hd) (fun i r hr j d hd => gr _ _ (hget i r hr) j d hd)
        have := gk _ _ (hget i r hr) j d hd
        rw [Nat.add_mul, ← Nat.add_assoc] at this
        exact this
    refine wp_value (rd := []) hs ?_ (.dat _ _ hres) hn
    simp only [execOp, ho]
    apply run_v
    simp [Instr.sliceAt, run_underlying h1 w, hu, Instr.slice, hbd, run_sizeOf_info h3 w, h4, addr_add]

theorem sound_len_str (hT : ∀ t i, T t = some i → i.Good P t) {cl : Call} {x : Operand} {s : List UInt8} {v : PV} (ho : o.op = .call cl) (hc : cl.callee = .builtin .len) (ha : cl.args = #[x]) (hx : evalO σ x = some v) (hv : asD v = some (.str s))
    (ht : ∃ t, cl.argTypes[0]? = some t ∧ tyOf T t = .str) (hn : s.length ≤ maxLen → Next σ o a w c K { val := .dat (.int .i64 s.length) }) : o.wp P a w K Q := by
  obtain ⟨t, h1, h2⟩ := ht
  have h3 := und_str hT h2
  obtain ⟨hp, hm⟩ := (asD_sound (evalO_sound he hx) hv).str_inv
  refine wp_value (rd := []) hs (x := .int .i64 s.length) ?_ (.dat _ _ (.int _ _)) (hn hm)
  have hsz : (⟨s.toArray⟩ : ByteArray).size = s.length := rfl
  simp [execOp, ho, resolve, hc, ha, invoke, builtin, Builtin.len_, h1, run_underlying h3, hp, goInt, hsz]

theorem sound_len_row (hT : ∀ t i, T t = some i → i.Good P t) {cl : Call} {x : Operand} {v : PV} {d : DV} {sy : Nat} {es : List (List DV)} (ho : o.op = .call cl) (hc : cl.callee = .builtin .len) (ha : cl.args = #[x]) (hx : evalO σ x = some v) (hv : asD v = some d) (hd : rowD d = some (sy, es))
    (ht : ∃ t e sz by', cl.argTypes[0]? = some t ∧ tyOf T t = .slice e sz by') (hn : es.length ≤ maxLen → Next σ o a w c K { val := .dat (.int .i64 es.length) }) : o.wp P a w K Q := by
  obtain ⟨t, e, sz, by', h1, h2⟩ := ht
  obtain ⟨h3, _⟩ := und_slice hT h2
  have hp := asD_sound (evalO_sound he hx) hv
  have hr : ∃ b cap, a.eval x = .slice b es.length cap ∧ es.length ≤ maxLen := by
    generalize a.eval x = u at hp ⊢
    cases hp <;> simp [rowD] at hd
    · obtain ⟨_, rfl⟩ := hd; exact ⟨none, 0, rfl, by simp [maxLen]⟩
    · obtain ⟨_, rfl⟩ := hd; exact ⟨none, 0, rfl, by simp [maxLen]⟩
    · rename_i h1 h2 _ _ _ _
      obtain ⟨_, rfl⟩ := hd; exact ⟨_, _, rfl, Nat.le_trans h1 h2⟩
    · obtain ⟨_, rfl⟩ := hd; exact ⟨_, 0, rfl, by simp [maxLen]⟩
  obtain ⟨b, cap, hr, hm⟩ := hr
  refine wp_value (rd := []) hs (x := .int .i64 es.length) ?_ (.dat _ _ (.int _ _)) (hn hm)
  simp [execOp, ho, resolve, hc, ha, invoke, builtin, Builtin.len_, h1, run_underlying h3, hr, goInt]

theorem sound_min {cl : Call} {x y : Operand} {u v : PV} {k : IntKind} {p q : Int} (ho : o.op = .call cl) (hc : cl.callee = .builtin .min) (ha : cl.args = #[x, y]) (hx : evalO σ x = some u) (hu : asD u = some (.int k p)) (hy : evalO σ y = some v) (hv : asD v = some (.int k q))
    (hn : Next σ o a w c K { val := .dat (.int k (if q < p then q else p)) }) : o.wp P a w K Q := by
  have h1 := (asD_sound (evalO_sound he hx) hu).int_inv
  have h2 := (asD_sound (evalO_sound he hy) hv).int_inv
  refine wp_value (rd := []) hs (x := .int k (if q < p then q else p)) ?_ (.dat _ _ (.int _ _)) hn
  simp [execOp, ho, resolve, hc, ha, invoke, builtin, Builtin.min_, h1, h2, Builtin.min2]

theorem sound_max {cl : Call} {x y : Operand} {u v : PV} {k : IntKind} {p q : Int} (ho : o.op = .call cl) (hc : cl.callee = .builtin .max) (ha : cl.args = #[x, y]) (hx : evalO σ x = some u) (hu : asD u = some (.int k p)) (hy : evalO σ y = some v) (hv : asD v = some (.int k q))
    (hn : Next σ o a w c K { val := .dat (.int k (if p < q then q else p)) }) : o.wp P a w K Q := by
  have h1 := (asD_sound (evalO_sound he hx) hu).int_inv
  have h2 := (asD_sound (evalO_sound he hy) hv).int_inv
  refine wp_value (rd := []) hs (x := .int k (if p < q then q else p)) ?_ (.dat _ _ (.int _ _)) hn
  simp [execOp, ho, resolve, hc, ha, invoke, builtin, Builtin.max_, h1, h2, Builtin.max2]

theorem sound_call {cl : Call} {f : Operand} {args : List PV} {g : FuncId} {caps : List PV} {d : Nat} {rdm : List (Key × List PV)} {e : Eff} (ho : o.op = .call cl) (hc : cl.callee = .value f) (ha : argsP σ cl.args.toList = some args) (hf : evalO σ f = some (.clo g caps))
    (hd : o.dst = some d) (hr : ∀ p ∈ rdm, σ.mem p.1 = some p.2) (hu : ∀ τ ∈ e.use, σ.live τ = true) (hE : CallE P g (args ++ caps) rdm d σ.ep e) (hfr : FreshAt c d σ.ep)
    (hn : Next σ o a w c K e) : o.wp P a w K Q := by
  obtain ⟨h1, h2⟩ := argsP_sound he ha
  obtain ⟨hent, hrd, hcall⟩ := hE
  have hp := evalO_sound he hf
  generalize hv : a.eval f = v at hp
  cases hp with
  | clo _ _ xs hl hx =>
    have hrun : (execOp a.eval o).run P w = .ok (.enter g (cl.args.map a.eval ++ xs)) w := by
      simp only [execOp, ho, resolve, hc, hv, Deferred.ofValue, Sem.run_bind, Sem.run_pure, Result.andThen_ok, invoke]
      rw [← hent (cl.args.map a.eval ++ xs) w]
      simp
    unfold Oper.wp
    rw [hrun, Oper.upon_enter]
    refine (hcall σ w c (cl.args.map a.eval ++ xs) rfl hr hu hs hfr ⟨by simp [h1, hl], fun j v hj => ?_⟩).mono (fun en w' hh => ?_)
    · rw [List.getElem?_append] at hj
      split at hj
      · rename_i hlt
        obtain ⟨x, h3, h4⟩ := h2 j v hj
        simp only [Array.getElem?_toList] at h3
        have hlt' : j < (cl.args.map a.eval).size := by simp; rw [h1] at hlt; simpa using hlt
        have : (cl.args.map a.eval ++ xs).getD j undef = a.eval x := by
          apply getD_of_some
          rw [Array.getElem?_append_left hlt']
          simp [h3]
        rw [this]; exact h4
      · rename_i hlt
        have hlt' : (cl.args.map a.eval).size ≤ j := by simp; rw [h1] at hlt; simpa using hlt
        have : (cl.args.map a.eval ++ xs).getD j undef = xs.getD (j - args.length) undef := by
          simp only [Array.getD_eq_getD_getElem?]
          rw [Array.getElem?_append_right hlt', Array.size_map, h1]; simp
        rw [this]; exact hx _ v hj
    · obtain ⟨v', c', rfl, h3, h4⟩ := hh
      exact hn v' w' c' h3 (by rw [hd]; exact h4)

end
end Go.Proofs.Ytehhgamkijkjgaa.AM
