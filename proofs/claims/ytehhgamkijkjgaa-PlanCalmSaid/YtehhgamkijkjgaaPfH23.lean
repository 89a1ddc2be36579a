/- Contracts of the functions, by the abstract machine. -/
import Derived.Test.YtehhgamkijkjgaaPfH21
namespace Go.Proofs.Ytehhgamkijkjgaa.AM.TT
open Go Go.Proofs.Ytehhgamkijkjgaa.AM Go.Proofs
set_option linter.unusedSimpArgs false
set_option linter.unusedVariables false
attribute [local irreducible] RunL AWp StepK OpK thenQ blockQ noGotoQ fnQ fnEQ
-- import Mod4
theorem calm {p : Page} {a : Above} {k : Str} {l : Limits} (hh : p.inner.held = false) (hk : hasP p k = true) (hc : ¬ l.chain < p.chain.length) (hr : ¬ l.rows < sizeP p) (hz : ¬ sizeP p = 0) : decideP p a k l true = decideP p a k l false := by
  have h0 : 0 ≤ sizeP p := by unfold sizeP; omega
  unfold decideP upkeepP
  have e : decide (0 < sizeP p) = true := by simp; omega
  simp [hh, hk, hc, hr, e]
theorem enter8 : EnterOk Try.prog 8 := EnterOk_of (fn := Try.f8) (by kernel_rfl) (by kernel_rfl) (by kernel_rfl)
theorem f8_calls (c : Case) : CallsD Try.prog 8 [.agg (ecase c)] (.bool true) := by
  refine CallsD_bd enter8 fun hbd => CallsD_of good mixed (fn := Try.f8) (by kernel_rfl) rfl enter8 (Nat.le_of_ble_eq_true rfl) ?_
  show AWp _ _ _ _ _ ⟨[(0, _)], [], [], 0⟩
  have hc26 := f26_calls c
  cases hf : fewC c with
  | false =>
    rw [hf] at hc26
    obtain ⟨n, ch, ab, so, ke, li, wr⟩ := c
    repeat' (first
        | (refine is_cons ?_; first
            | (refine is_g ?_; first | refine rl_on rfl rfl ?_ | refine rl_off rfl rfl ?_ | refine rl_offU rfl ?_ | (refine rl_case rfl ?_ ?_ <;> (intro h; first | subst h | (simp only [Bool.not_eq_true', Bool.not_eq_false'] at h; subst h))))
            | (refine is_ld ?_; first | refine ld_load rfl (by first | rfl | (repeat (first | exact lookM_hd | refine lookM_sl rfl ?_))) rfl (by (try simp only [nfA, ecase, Nat.reduceAdd]) <;> exact rfl) ?_ | refine ld_valn rfl (by (try simp only [nfA, ecase, Nat.reduceAdd]) <;> exact rfl) ?_)
            | (refine is_fa ?_; first | refine fa_valn rfl (by (try simp only [nfA, ecase, Nat.reduceAdd]) <;> exact rfl) ?_)
            | (refine is_mv ?_; first | refine mv_val rfl ?_)
            | (refine is_pk ?_; first | refine pk_twoT rfl rfl ?_ | refine pk_twoF rfl rfl ?_ | (refine pk_case rfl ?_ ?_ <;> (intro h; subst h)))
            | (refine is_as ?_; first | refine as_val rfl ?_ | refine as_new rfl rfl ?_)
            | (refine is_bo ?_; first | refine rl_binT rfl ?_ | refine rl_binF rfl ?_ | (refine rl_binB rfl ?_; intro _ _) | (refine rl_half rfl (by (try simp only [maxLen_eq, List.length_map, decide_eq_true_eq, decide_eq_false_iff_not] at *); omega) ?_) | (refine rl_binW rfl (by (try simp only [maxLen_eq, List.length_map, decide_eq_true_eq, decide_eq_false_iff_not] at *); omega) ?_) | refine bo_val rfl ?_)
            | (refine is_ex ?_; first | (refine rl_extB rfl ?_; intro _ _) | refine ex_valn rfl (by (try simp only [nfA, ecase, Nat.reduceAdd]) <;> exact rfl) ?_)
            | (refine is_uo ?_; first | refine uo_val rfl ?_)
            | (refine is_al ?_; first | refine al_alloc rfl (by (try simp only [nfA, ecase, Nat.reduceAdd]) <;> exact rfl) ?_)
            | (refine is_st ?_; first | refine st_store rfl (by first | rfl | (repeat (first | exact lookM_hd | refine lookM_sl rfl ?_))) rfl (by (try simp only [nfA, ecase, Nat.reduceAdd]) <;> exact rfl) ?_)
            | (refine is_bx ?_; first | refine bx_alloc rfl (by (try simp only [nfA, ecase, Nat.reduceAdd]) <;> exact rfl) ?_)
            | (refine is_bi ?_; first | (refine bi_gated rfl (by (try simp only [nfA, ecase, Nat.reduceAdd]) <;> exact rfl) ?_; intro _) | refine bi_val rfl ?_ | refine bi_own rfl (by first | rfl | (repeat (first | exact lookB_hd | refine lookB_sl rfl ?_))) ?_ ?_ | refine bi_needN rfl ?_ ?_)
            | (refine is_cf 26 ?_; refine cf hc26 rfl ⟨.inl rfl, trivial⟩ ?_)
            | (refine is_cf 27 ?_; first | refine cf (f27_calls) rfl trivial ?_ | refine cf (f27_calls) rfl trivial ?_))
        | refine rl_nil ?_
        | (refine is_aw ?_; first
            | refine aw_seq ?_
            | refine aw_scope ?_
            | refine aw_reg rfl ?_
            | refine aw_draw rfl ?_
            | refine aw_condT rfl ?_
            | refine aw_condF rfl ?_
            | (refine aw_condN rfl ?_ ?_ <;> (intro h; subst h))
            | (refine aw_cond rfl ?_ ?_ <;> (intro h; subst h))
            | refine aw_skip ?_
            | refine aw_ret ?_
            | refine aw_exit ?_
            | refine aw_block ?_
            | refine aw_label ?_)
        | refine tq_n ?_
        | refine ng_n ?_
        | refine ng_r ?_
        | refine ng_x ?_
        | refine ⟨(rfl : regOk _ _ = true), ?_⟩
        | refine tq_r ?_
        | refine tq_x ?_
        | refine bq_n ?_
        | refine bq_x ?_
        | refine bq_r ?_
        | refine bq_o rfl ?_
        | refine fq_r rfl ?_
        | refine fq_n rfl ?_)
    all_goals rfl
  | true =>
    rw [hf] at hc26
    have hc28 := f28_calls c hf
    cases hp : madeP c with
    | error e =>
      simp only [encM, hp] at hc28
      obtain ⟨n, ch, ab, so, ke, li, wr⟩ := c
      repeat' (first
          | (refine is_cons ?_; first
              | (refine is_g ?_; first | refine rl_on rfl rfl ?_ | refine rl_off rfl rfl ?_ | refine rl_offU rfl ?_ | (refine rl_case rfl ?_ ?_ <;> (intro h; first | subst h | (simp only [Bool.not_eq_true', Bool.not_eq_false'] at h; subst h))))
              | (refine is_ld ?_; first | refine ld_load rfl (by first | rfl | (repeat (first | exact lookM_hd | refine lookM_sl rfl ?_))) rfl (by (try simp only [nfA, ecase, Nat.reduceAdd]) <;> exact rfl) ?_ | refine ld_valn rfl (by (try simp only [nfA, ecase, Nat.reduceAdd]) <;> exact rfl) ?_)
              | (refine is_fa ?_; first | refine fa_valn rfl (by (try simp only [nfA, ecase, Nat.reduceAdd]) <;> exact rfl) ?_)
              | (refine is_mv ?_; first | refine mv_val rfl ?_)
              | (refine is_pk ?_; first | refine pk_twoT rfl rfl ?_ | refine pk_twoF rfl rfl ?_ | (refine pk_case rfl ?_ ?_ <;> (intro h; subst h)))
              | (refine is_as ?_; first | refine as_val rfl ?_ | refine as_new rfl rfl ?_)
              | (refine is_bo ?_; first | refine rl_binT rfl ?_ | refine rl_binF rfl ?_ | (refine rl_binB rfl ?_; intro _ _) | (refine rl_half rfl (by (try simp only [maxLen_eq, List.length_map, decide_eq_true_eq, decide_eq_false_iff_not] at *); omega) ?_) | (refine rl_binW rfl (by (try simp only [maxLen_eq, List.length_map, decide_eq_true_eq, decide_eq_false_iff_not] at *); omega) ?_) | refine bo_val rfl ?_)
              | (refine is_ex ?_; first | (refine rl_extB rfl ?_; intro _ _) | refine ex_valn rfl (by (try simp only [nfA, ecase, Nat.reduceAdd]) <;> exact rfl) ?_)
              | (refine is_uo ?_; first | refine uo_val rfl ?_)
              | (refine is_al ?_; first | refine al_alloc rfl (by (try simp only [nfA, ecase, Nat.reduceAdd]) <;> exact rfl) ?_)
              | (refine is_st ?_; first | refine st_store rfl (by first | rfl | (repeat (first | exact lookM_hd | refine lookM_sl rfl ?_))) rfl (by (try simp only [nfA, ecase, Nat.reduceAdd]) <;> exact rfl) ?_)
              | (refine is_bx ?_; first | refine bx_alloc rfl (by (try simp only [nfA, ecase, Nat.reduceAdd]) <;> exact rfl) ?_)
              | (refine is_bi ?_; first | (refine bi_gated rfl (by (try simp only [nfA, ecase, Nat.reduceAdd]) <;> exact rfl) ?_; intro _) | refine bi_val rfl ?_ | refine bi_own rfl (by first | rfl | (repeat (first | exact lookB_hd | refine lookB_sl rfl ?_))) ?_ ?_ | refine bi_needN rfl ?_ ?_)
              | (refine is_cf 26 ?_; refine cf hc26 rfl ⟨.inl rfl, trivial⟩ ?_)
              | (refine is_cf 27 ?_; first | refine cf (f27_calls) rfl trivial ?_ | refine cf (f27_calls) rfl trivial ?_)
              | (refine is_cf 28 ?_; refine cf hc28 rfl ⟨.inl rfl, trivial⟩ ?_))
          | refine rl_nil ?_
          | (refine is_aw ?_; first
              | refine aw_seq ?_
              | refine aw_scope ?_
              | refine aw_reg rfl ?_
              | refine aw_draw rfl ?_
              | refine aw_condT rfl ?_
              | refine aw_condF rfl ?_
              | (refine aw_condN rfl ?_ ?_ <;> (intro h; subst h))
              | (refine aw_cond rfl ?_ ?_ <;> (intro h; subst h))
              | refine aw_skip ?_
              | refine aw_ret ?_
              | refine aw_exit ?_
              | refine aw_block ?_
              | refine aw_label ?_)
          | refine tq_n ?_
          | refine ng_n ?_
          | refine ng_r ?_
          | refine ng_x ?_
          | refine ⟨(rfl : regOk _ _ = true), ?_⟩
          | refine tq_r ?_
          | refine tq_x ?_
          | refine bq_n ?_
          | refine bq_x ?_
          | refine bq_r ?_
          | refine bq_o rfl ?_
          | refine fq_r rfl ?_
          | refine fq_n rfl ?_)
      all_goals first
        | contradiction
        | rfl
    | ok p =>
      have hl := madeP_len hf hp
      simp only [encM, hp] at hc28
      have hct := f30_calls_all p (madeA c) c.key c.limits true hl.1 hl.2
      have hcf := f30_calls_all p (madeA c) c.key c.limits false hl.1 hl.2
      have hc36 := f36_calls p hl.1 hl.2
      have hcm := fun h1 h2 h3 h4 h5 => calm (p := p) (a := madeA c) (k := c.key) (l := c.limits) h1 h2 h3 h4 h5
      generalize decideP p (madeA c) c.key c.limits true = X at hct hcm
      generalize decideP p (madeA c) c.key c.limits false = Y at hcf hcm
      obtain ⟨n, ch, ab, so, ke, li, wr⟩ := c
      simp only at hct hcf hcm
      have hc33 := f33_calls p ke
      obtain ⟨pn, phd, pch, prf, plf, ⟨rlo, rhi, run, rri, rro, rgo⟩, ⟨ilo, ihi, iun, iri, ien, ihe, iho⟩⟩ := p
      repeat' (first
          | (refine is_cons ?_; first
              | (refine is_g ?_; first | refine rl_on rfl rfl ?_ | refine rl_off rfl rfl ?_ | refine rl_offU rfl ?_ | (refine rl_case rfl ?_ ?_ <;> (intro h; first | subst h | (simp only [Bool.not_eq_true', Bool.not_eq_false'] at h; subst h))))
              | (refine is_ld ?_; first | refine ld_load rfl (by first | rfl | (repeat (first | exact lookM_hd | refine lookM_sl rfl ?_))) rfl (by (try simp only [nfA, ecase, Nat.reduceAdd]) <;> exact rfl) ?_ | refine ld_valn rfl (by (try simp only [nfA, ecase, Nat.reduceAdd]) <;> exact rfl) ?_)
              | (refine is_fa ?_; first | refine fa_valn rfl (by (try simp only [nfA, ecase, Nat.reduceAdd]) <;> exact rfl) ?_)
              | (refine is_mv ?_; first | refine mv_val rfl ?_)
              | (refine is_pk ?_; first | refine pk_twoT rfl rfl ?_ | refine pk_twoF rfl rfl ?_ | (refine pk_case rfl ?_ ?_ <;> (intro h; subst h)))
              | (refine is_as ?_; first | refine as_val rfl ?_ | refine as_new rfl rfl ?_)
              | (refine is_bo ?_; first | refine rl_binT rfl ?_ | refine rl_binF rfl ?_ | (refine rl_binB rfl ?_; intro _ _) | (refine rl_half rfl (by (try simp only [maxLen_eq, List.length_map, decide_eq_true_eq, decide_eq_false_iff_not] at *); omega) ?_) | (refine rl_binW rfl (by (try simp only [maxLen_eq, List.length_map, decide_eq_true_eq, decide_eq_false_iff_not] at *); omega) ?_) | refine bo_val rfl ?_)
              | (refine is_ex ?_; first | (refine rl_extB rfl ?_; intro _ _) | refine ex_valn rfl (by (try simp only [nfA, ecase, Nat.reduceAdd]) <;> exact rfl) ?_)
              | (refine is_uo ?_; first | refine uo_val rfl ?_)
              | (refine is_al ?_; first | refine al_alloc rfl (by (try simp only [nfA, ecase, Nat.reduceAdd]) <;> exact rfl) ?_)
              | (refine is_st ?_; first | refine st_store rfl (by first | rfl | (repeat (first | exact lookM_hd | refine lookM_sl rfl ?_))) rfl (by (try simp only [nfA, ecase, Nat.reduceAdd]) <;> exact rfl) ?_)
              | (refine is_bx ?_; first | refine bx_alloc rfl (by (try simp only [nfA, ecase, Nat.reduceAdd]) <;> exact rfl) ?_)
              | (refine is_bi ?_; first | (refine bi_gated rfl (by (try simp only [nfA, ecase, Nat.reduceAdd]) <;> exact rfl) ?_; intro _) | refine bi_val rfl ?_ | refine bi_own rfl (by first | rfl | (repeat (first | exact lookB_hd | refine lookB_sl rfl ?_))) ?_ ?_ | refine bi_needN rfl ?_ ?_)
              | (refine is_cf 26 ?_; refine cf hc26 rfl ⟨.inl rfl, trivial⟩ ?_)
              | (refine is_cf 27 ?_; first | refine cf (f27_calls) rfl trivial ?_ | refine cf (f27_calls) rfl trivial ?_)
              | (refine is_cf 28 ?_; refine cf hc28 rfl ⟨.inl rfl, trivial⟩ ?_)
              | (refine is_cf 30 ?_; first | refine cf hct rfl ⟨.inl rfl, .inl rfl, .inl rfl, .inl rfl, .inl rfl, trivial⟩ ?_ | refine cf hcf rfl ⟨.inl rfl, .inl rfl, .inl rfl, .inl rfl, .inl rfl, trivial⟩ ?_)
              | (refine is_cf 33 ?_; refine cfB hc33 rfl ⟨.inl rfl, .inl rfl, trivial⟩ ?_; intro _ _)
              | (refine is_cf 36 ?_; refine cf hc36 rfl ⟨.inl rfl, trivial⟩ ?_))
          | refine rl_nil ?_
          | (refine is_aw ?_; first
              | refine aw_seq ?_
              | refine aw_scope ?_
              | refine aw_reg rfl ?_
              | refine aw_draw rfl ?_
              | refine aw_condT rfl ?_
              | refine aw_condF rfl ?_
              | (refine aw_condN rfl ?_ ?_ <;> (intro h; subst h))
              | (refine aw_cond rfl ?_ ?_ <;> (intro h; subst h))
              | refine aw_skip ?_
              | refine aw_ret ?_
              | refine aw_exit ?_
              | refine aw_block ?_
              | refine aw_label ?_)
          | refine tq_n ?_
          | refine ng_n ?_
          | refine ng_r ?_
          | refine ng_x ?_
          | refine ⟨(rfl : regOk _ _ = true), ?_⟩
          | refine tq_r ?_
          | refine tq_x ?_
          | refine bq_n ?_
          | refine bq_x ?_
          | refine bq_r ?_
          | refine bq_o rfl ?_
          | refine fq_r rfl ?_
          | refine fq_n rfl ?_)
      all_goals first
        | contradiction
        | rfl
        | (exfalso
           simp only [maxLen_eq, List.length_map, decide_eq_true_eq, decide_eq_false_iff_not] at *
           obtain rfl := hcm (by first | rfl | assumption) (by assumption) (by omega) (by omega) (by omega)
           simp at *)
end Go.Proofs.Ytehhgamkijkjgaa.AM.TT
