/- Contracts of the functions, by the abstract machine. -/
import Derived.Test.YtehhgamkijkjgaaPfH25
import Derived.Test.YtehhgamkijkjgaaPfMod7
namespace Go.Proofs.Ytehhgamkijkjgaa.AM.TT
open Go Go.Proofs.Ytehhgamkijkjgaa.AM Go.Proofs
set_option linter.unusedSimpArgs false
set_option linter.unusedVariables false
set_option maxHeartbeats 1000000
attribute [local irreducible] RunL AWp StepK OpK thenQ blockQ noGotoQ fnQ fnEQ
-- import Mod4
theorem enter10 : EnterOk Try.prog 10 := EnterOk_of (fn := Try.f10) (by kernel_rfl) (by kernel_rfl) (by kernel_rfl)
theorem f10_calls (c : Case) : CallsD Try.prog 10 [.agg (ecase c)] (.bool true) := by
  refine CallsD_bd enter10 fun hbd => CallsD_of good mixed (fn := Try.f10) (by kernel_rfl) rfl enter10 (Nat.le_of_ble_eq_true rfl) ?_
  show AWp _ _ _ _ _ ⟨[(0, _)], [], [], 0⟩
  have hc26 := f26_calls c
  cases hf : fewC c with
  | false =>
    rw [hf] at hc26
    obtain ⟨n, ch, ab, so, ke, li, wr⟩ := c
    repeat' (first
        | (refine is_cons ?_; first
            | (refine is_g ?_; first | refine rl_on rfl rfl ?_ | refine rl_off rfl rfl ?_ | refine rl_offU rfl ?_ | (refine rl_case rfl ?_ ?_ <;> (intro h; first | subst h | (simp only [Bool.not_eq_true', Bool.not_eq_false'] at h; subst h))))
            | (refine is_ld ?_; first | refine ld_load rfl (by first | rfl | (repeat (first | exact lookM_hd | refine lookM_sl rfl ?_))) rfl (by (try simp only [nfA, ecase, Nat.reduceAdd]) <;> exact rfl) ?_ | refine ld_valn rfl (by (try simp only [nfA, ecase, Nat.reduceAdd]) <;> exact rfl) ?_)
            | (refine is_fa ?_; first | refine fa_valn rfl (by (try simp only [nfA, ecase, Nat.reduceAdd]) <;> exact rfl) ?_)
            | (refine is_mv ?_; first | refine mv_val rfl ?_)
            | (refine is_as ?_; first | refine as_val rfl ?_ | refine as_new rfl rfl ?_)
            | (refine is_pk ?_; first | refine pk_twoT rfl rfl ?_ | refine pk_twoF rfl rfl ?_ | (refine pk_case rfl ?_ ?_ <;> (intro h; subst h)))
            | (refine is_bo ?_; first | refine rl_binT rfl ?_ | refine rl_binF rfl ?_ | (refine rl_binB rfl ?_; intro _ _) | (refine rl_half rfl (by (try simp only [maxLen_eq, List.length_map, decide_eq_true_eq, decide_eq_false_iff_not] at *); omega) ?_) | (refine rl_binW rfl (by (try simp only [maxLen_eq, List.length_map, decide_eq_true_eq, decide_eq_false_iff_not] at *); omega) ?_) | refine bo_val rfl ?_)
            | (refine is_ex ?_; first | (refine rl_extB rfl ?_; intro _ _) | refine ex_valn rfl (by (try simp only [nfA, ecase, Nat.reduceAdd]) <;> exact rfl) ?_)
            | (refine is_uo ?_; first | refine uo_val rfl ?_)
            | (refine is_al ?_; first | refine al_alloc rfl (by (try simp only [nfA, ecase, Nat.reduceAdd]) <;> exact rfl) ?_)
            | (refine is_st ?_; first | refine st_store rfl (by first | rfl | (repeat (first | exact lookM_hd | refine lookM_sl rfl ?_))) rfl (by (try simp only [nfA, ecase, Nat.reduceAdd]) <;> exact rfl) ?_)
            | (refine is_bx ?_; first | refine bx_alloc rfl (by (try simp only [nfA, ecase, Nat.reduceAdd]) <;> exact rfl) ?_)
            | (refine is_ia ?_; first | (refine ia_elt rfl ?_ (fun _ _ => ?_)))
            | (refine is_bi ?_; first | (refine bi_gated rfl (by (try simp only [nfA, ecase, Nat.reduceAdd]) <;> exact rfl) ?_; intro _) | refine bi_val rfl ?_ | refine bi_own rfl (by first | rfl | (repeat (first | exact lookB_hd | refine lookB_sl rfl ?_))) ?_ ?_ | refine bi_needN rfl ?_ ?_)
            | (refine is_cf 26 ?_; refine cf hc26 rfl ⟨.inl rfl, trivial⟩ ?_)
            | (refine is_cf 27 ?_; first | refine cf (f27_calls) rfl trivial ?_ | refine cf (f27_calls) rfl trivial ?_))
        | refine rl_nil ?_
        | (refine is_aw ?_; first
            | refine aw_seq ?_
            | refine aw_scope ?_
            | refine aw_reg rfl ?_
            | refine aw_draw rfl ?_
            | refine aw_condT rfl ?_
            | refine aw_condF rfl ?_
            | (refine aw_condN rfl ?_ ?_ <;> (intro h; subst h))
            | (refine aw_cond rfl ?_ ?_ <;> (intro h; subst h))
            | refine aw_skip ?_
            | refine aw_ret ?_
            | refine aw_exit ?_
            | refine aw_block ?_
            | refine aw_label ?_)
        | refine tq_n ?_
        | refine ng_n ?_
        | refine ng_r ?_
        | refine ng_x ?_
        | refine ⟨(rfl : regOk _ _ = true), ?_⟩
        | refine tq_r ?_
        | refine tq_x ?_
        | refine bq_n ?_
        | refine bq_x ?_
        | refine bq_r ?_
        | refine bq_o rfl ?_
        | refine fq_r rfl ?_
        | refine fq_n rfl ?_)
    all_goals rfl
  | true =>
    rw [hf] at hc26
    have hc28 := f28_calls c hf
    cases hp : madeP c with
    | error e =>
      simp only [encM, hp] at hc28
      obtain ⟨n, ch, ab, so, ke, li, wr⟩ := c
      repeat' (first
          | (refine is_cons ?_; first
              | (refine is_g ?_; first | refine rl_on rfl rfl ?_ | refine rl_off rfl rfl ?_ | refine rl_offU rfl ?_ | (refine rl_case rfl ?_ ?_ <;> (intro h; first | subst h | (simp only [Bool.not_eq_true', Bool.not_eq_false'] at h; subst h))))
              | (refine is_ld ?_; first | refine ld_load rfl (by first | rfl | (repeat (first | exact lookM_hd | refine lookM_sl rfl ?_))) rfl (by (try simp only [nfA, ecase, Nat.reduceAdd]) <;> exact rfl) ?_ | refine ld_valn rfl (by (try simp only [nfA, ecase, Nat.reduceAdd]) <;> exact rfl) ?_)
              | (refine is_fa ?_; first | refine fa_valn rfl (by (try simp only [nfA, ecase, Nat.reduceAdd]) <;> exact rfl) ?_)
              | (refine is_mv ?_; first | refine mv_val rfl ?_)
              | (refine is_as ?_; first | refine as_val rfl ?_ | refine as_new rfl rfl ?_)
              | (refine is_pk ?_; first | refine pk_twoT rfl rfl ?_ | refine pk_twoF rfl rfl ?_ | (refine pk_case rfl ?_ ?_ <;> (intro h; subst h)))
              | (refine is_bo ?_; first | refine rl_binT rfl ?_ | refine rl_binF rfl ?_ | (refine rl_binB rfl ?_; intro _ _) | (refine rl_half rfl (by (try simp only [maxLen_eq, List.length_map, decide_eq_true_eq, decide_eq_false_iff_not] at *); omega) ?_) | (refine rl_binW rfl (by (try simp only [maxLen_eq, List.length_map, decide_eq_true_eq, decide_eq_false_iff_not] at *); omega) ?_) | refine bo_val rfl ?_)
              | (refine is_ex ?_; first | (refine rl_extB rfl ?_; intro _ _) | refine ex_valn rfl (by (try simp only [nfA, ecase, Nat.reduceAdd]) <;> exact rfl) ?_)
              | (refine is_uo ?_; first | refine uo_val rfl ?_)
              | (refine is_al ?_; first | refine al_alloc rfl (by (try simp only [nfA, ecase, Nat.reduceAdd]) <;> exact rfl) ?_)
              | (refine is_st ?_; first | refine st_store rfl (by first | rfl | (repeat (first | exact lookM_hd | refine lookM_sl rfl ?_))) rfl (by (try simp only [nfA, ecase, Nat.reduceAdd]) <;> exact rfl) ?_)
              | (refine is_bx ?_; first | refine bx_alloc rfl (by (try simp only [nfA, ecase, Nat.reduceAdd]) <;> exact rfl) ?_)
              | (refine is_ia ?_; first | (refine ia_elt rfl ?_ (fun _ _ => ?_)))
              | (refine is_bi ?_; first | (refine bi_gated rfl (by (try simp only [nfA, ecase, Nat.reduceAdd]) <;> exact rfl) ?_; intro _) | refine bi_val rfl ?_ | refine bi_own rfl (by first | rfl | (repeat (first | exact lookB_hd | refine lookB_sl rfl ?_))) ?_ ?_ | refine bi_needN rfl ?_ ?_)
              | (refine is_cf 26 ?_; refine cf hc26 rfl ⟨.inl rfl, trivial⟩ ?_)
              | (refine is_cf 27 ?_; first | refine cf (f27_calls) rfl trivial ?_ | refine cf (f27_calls) rfl trivial ?_)
              | (refine is_cf 28 ?_; refine cf hc28 rfl ⟨.inl rfl, trivial⟩ ?_))
          | refine rl_nil ?_
          | (refine is_aw ?_; first
              | refine aw_seq ?_
              | refine aw_scope ?_
              | refine aw_reg rfl ?_
              | refine aw_draw rfl ?_
              | refine aw_condT rfl ?_
              | refine aw_condF rfl ?_
              | (refine aw_condN rfl ?_ ?_ <;> (intro h; subst h))
              | (refine aw_cond rfl ?_ ?_ <;> (intro h; subst h))
              | refine aw_skip ?_
              | refine aw_ret ?_
              | refine aw_exit ?_
              | refine aw_block ?_
              | refine aw_label ?_)
          | refine tq_n ?_
          | refine ng_n ?_
          | refine ng_r ?_
          | refine ng_x ?_
          | refine ⟨(rfl : regOk _ _ = true), ?_⟩
          | refine tq_r ?_
          | refine tq_x ?_
          | refine bq_n ?_
          | refine bq_x ?_
          | refine bq_r ?_
          | refine bq_o rfl ?_
          | refine fq_r rfl ?_
          | refine fq_n rfl ?_)
      all_goals first
        | contradiction
        | rfl
    | ok p =>
      have hl := madeP_len hf hp
      have hin := madeP_inner hp
      simp only [encM, hp] at hc28
      generalize madeA c = A at hc28
      have hcf := f30_calls_all p A c.key c.limits false hl.1 hl.2
      have hcb := f38_calls p [] true false
      have hla := fun x h1 h2 h3 h4 => lasts (p := p) (a := A) (k := c.key) (l := c.limits) (x := x) (hin h1).1 (hin h1).2 h1 h2 h3 h4
      have hne : p.leaf = false → 0 < p.inner.ents.length := fun q => by
        obtain ⟨x, r, h1, _⟩ := (hin q).1
        rw [h1]; simp
      generalize decideP p A c.key c.limits false = X at hcf hla
      generalize backP p [] true false = Y at hcb hla
      clear hin hf hp
      obtain ⟨n, ch, ab, so, ke, li, wr⟩ := c
      obtain ⟨pn, phd, pch, prf, plf, ⟨rlo, rhi, run, rri, rro, rgo⟩, ⟨ilo, ihi, iun, iri, ien, ihe, iho⟩⟩ := p
      simp only at *
      repeat' (first
          | (refine is_cons ?_; first
              | (refine is_g ?_; first | refine rl_on rfl rfl ?_ | refine rl_off rfl rfl ?_ | refine rl_offU rfl ?_ | (refine rl_case rfl ?_ ?_ <;> (intro h; first | subst h | (simp only [Bool.not_eq_true', Bool.not_eq_false'] at h; subst h))))
              | (refine is_ld ?_; first | refine ld_load rfl (by first | rfl | (repeat (first | exact lookM_hd | refine lookM_sl rfl ?_))) rfl (by (try simp only [nfA, ecase, Nat.reduceAdd]) <;> exact rfl) ?_ | refine ld_valn rfl (by (try simp only [nfA, ecase, Nat.reduceAdd]) <;> exact rfl) ?_)
              | (refine is_fa ?_; first | refine fa_valn rfl (by (try simp only [nfA, ecase, Nat.reduceAdd]) <;> exact rfl) ?_)
              | (refine is_mv ?_; first | refine mv_val rfl ?_)
              | (refine is_as ?_; first | refine as_val rfl ?_ | refine as_new rfl rfl ?_)
              | (refine is_pk ?_; first | refine pk_twoT rfl rfl ?_ | refine pk_twoF rfl rfl ?_ | (refine pk_case rfl ?_ ?_ <;> (intro h; subst h)))
              | (refine is_bo ?_; first | refine rl_binT rfl ?_ | refine rl_binF rfl ?_ | (refine rl_binB rfl ?_; intro _ _) | (refine rl_half rfl (by (try simp only [maxLen_eq, List.length_map, decide_eq_true_eq, decide_eq_false_iff_not] at *); omega) ?_) | (refine rl_binW rfl (by (try simp only [maxLen_eq, List.length_map, decide_eq_true_eq, decide_eq_false_iff_not] at *); omega) ?_) | refine bo_val rfl ?_)
              | (refine is_ex ?_; first | (refine rl_extB rfl ?_; intro _ _) | refine ex_valn rfl (by (try simp only [nfA, ecase, Nat.reduceAdd]) <;> exact rfl) ?_)
              | (refine is_uo ?_; first | refine uo_val rfl ?_)
              | (refine is_al ?_; first | refine al_alloc rfl (by (try simp only [nfA, ecase, Nat.reduceAdd]) <;> exact rfl) ?_)
              | (refine is_st ?_; first | refine st_store rfl (by first | rfl | (repeat (first | exact lookM_hd | refine lookM_sl rfl ?_))) rfl (by (try simp only [nfA, ecase, Nat.reduceAdd]) <;> exact rfl) ?_)
              | (refine is_bx ?_; first | refine bx_alloc rfl (by (try simp only [nfA, ecase, Nat.reduceAdd]) <;> exact rfl) ?_)
              | (refine is_ia ?_; first | (refine ia_elt rfl ?_ (fun _ _ => ?_)))
              | (refine is_bi ?_; first | (refine bi_gated rfl (by (try simp only [nfA, ecase, Nat.reduceAdd]) <;> exact rfl) ?_; intro _) | refine bi_val rfl ?_ | refine bi_own rfl (by first | rfl | (repeat (first | exact lookB_hd | refine lookB_sl rfl ?_))) ?_ ?_ | refine bi_needN rfl ?_ ?_)
              | (refine is_cf 26 ?_; refine cf hc26 rfl ⟨.inl rfl, trivial⟩ ?_)
              | (refine is_cf 27 ?_; first | refine cf (f27_calls) rfl trivial ?_ | refine cf (f27_calls) rfl trivial ?_)
              | (refine is_cf 28 ?_; refine cf hc28 rfl ⟨.inl rfl, trivial⟩ ?_)
              | (refine is_cf 30 ?_; refine cf hcf rfl ⟨.inl rfl, .inl rfl, .inl rfl, .inl rfl, .inl rfl, trivial⟩ ?_)
              | (refine is_cf 38 ?_; refine cf hcb rfl ⟨.inl rfl, .inl rfl, .inl rfl, .inl rfl, trivial⟩ ?_))
          | refine rl_nil ?_
          | (refine is_aw ?_; first
              | refine aw_seq ?_
              | refine aw_scope ?_
              | refine aw_reg rfl ?_
              | refine aw_draw rfl ?_
              | refine aw_condT rfl ?_
              | refine aw_condF rfl ?_
              | (refine aw_condN rfl ?_ ?_ <;> (intro h; subst h))
              | (refine aw_cond rfl ?_ ?_ <;> (intro h; subst h))
              | refine aw_skip ?_
              | refine aw_ret ?_
              | refine aw_exit ?_
              | refine aw_block ?_
              | refine aw_label ?_)
          | refine tq_n ?_
          | refine ng_n ?_
          | refine ng_r ?_
          | refine ng_x ?_
          | refine ⟨(rfl : regOk _ _ = true), ?_⟩
          | refine tq_r ?_
          | refine tq_x ?_
          | refine bq_n ?_
          | refine bq_x ?_
          | refine bq_r ?_
          | refine bq_o rfl ?_
          | refine fq_r rfl ?_
          | refine fq_n rfl ?_)
      all_goals first
        | contradiction
        | rfl
        | (have := hne rfl; simp only [maxLen_eq, List.length_map, decide_eq_true_eq, decide_eq_false_iff_not, Int.toNat_natCast, Bool.not_eq_true', Bool.not_eq_false', Bool.not_eq_true, Bool.not_eq_false] at *; omega)
        | (exfalso
           have := hne rfl
           have ee1 : ((ien.length : Int) - 1).toNat = ien.length - 1 := by omega
           have hla2 : ∀ x : Entry, ien[((ien.length : Int) - 1).toNat]? = some x → strLt ke x.key = false → Y = X := fun x h1 h2 => hla x rfl rfl (by rw [ee1] at h1; exact h1) h2
           obtain rfl := hla2 _ (by assumption) (by assumption)
           simp at *)
end Go.Proofs.Ytehhgamkijkjgaa.AM.TT
