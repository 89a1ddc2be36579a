/- Contracts of the functions and their models, by the abstract machine. -/
import Derived.Test.YtehhgamkijkjgaaPfRefs
import Derived.Test.YtehhgamkijkjgaaPfH21
-- tt
-- import Mod4
namespace Go.Proofs.Ytehhgamkijkjgaa.AM.TT
open Go Go.Proofs.Ytehhgamkijkjgaa.AM Go.Proofs
set_option linter.unusedSimpArgs false
set_option linter.unusedVariables false
set_option maxHeartbeats 2000000
attribute [local irreducible] RunL AWp StepK OpK thenQ blockQ noGotoQ fnQ fnEQ
theorem at_neg (b : Bool) (p : Nat) : decide ((if b = true then (p : Int) else -1) < 0) = !b := by
  cases b
  · simp
  · simp only [if_true, Bool.not_true, decide_eq_false_iff_not]; omega
theorem enter31 : EnterOk Try.prog 31 := EnterOk_of (fn := Try.f31) (by kernel_rfl) (by kernel_rfl) (by kernel_rfl)
theorem f31_calls (p : Page) (a : Above) (k : Str) (l : Limits) (w : Bool) (hok : PageOk p) (hua : Up a.view.ents) : CallsD Try.prog 31 [.agg (epg p), .agg (eab a), .str k, .agg (eli l), .bool w] (.agg (epl (decideP p a k l w))) := by
  refine CallsD_bd enter31 fun hbd => CallsD_of good mixed (fn := Try.f31) (by kernel_rfl) rfl enter31 (Nat.le_of_ble_eq_true rfl) ?_
  show AWp _ _ _ _ _ ⟨[(0, _), (1, _), (2, _), (3, _), (4, _)], [], [], 0⟩
  obtain ⟨hk1, hk2⟩ := hok
  obtain ⟨pn, phd, pch, prf, plf, ⟨rlo, rhi, run, rri, rro, rgo⟩, ⟨ilo, ihi, iun, iri, ien, ihe, iho⟩⟩ := p
  obtain ⟨aso, an, ahe, ⟨alo, ahi, aun, ari, aen, ahl, aho⟩⟩ := a
  obtain ⟨ls, lp, lt_, lr, lc, lco⟩ := l
  simp only at hk1 hk2 hua
  have g56 : ∀ K, CallsD Try.prog 56 [.agg (ei ⟨alo, ahi, aun, ari, aen, ahl, aho⟩), .str K] (I (if thereE aen K then (placeE aen K : Int) else -1)) := by
    intro K
    have := f56_calls ⟨alo, ahi, aun, ari, aen, ahl, aho⟩ K
    rw [atE_up hua] at this
    exact this
  have hc57 := f57_calls ⟨alo, ahi, aun, ari, aen, ahl, aho⟩ pn
  generalize hH : hold4 ⟨alo, ahi, aun, ari, aen, ahl, aho⟩ pn = H at hc57
  have hch : ∀ hu : Up ien, CallsD Try.prog 58 [.agg (ei ⟨ilo, ihi, iun, iri, ien, ihe, iho⟩), .str k] (encRC (childI ⟨ilo, ihi, iun, iri, ien, ihe, iho⟩ k)) := fun hu => f58_calls _ k hu
  cases plf
  · obtain ⟨hr0, hhd, hup⟩ := hk2 rfl
    replace hch := hch hup
    have hcs := fun h => childI_some (k := k) hhd hup h
    generalize hC : childI ⟨ilo, ihi, iun, iri, ien, ihe, iho⟩ k = C at hch hcs
    clear hk1 hk2 hhd hup hua
    subst hr0
    clear hH
    cases C
    all_goals simp only [encRC] at hch
    all_goals
      repeat' (first
          | (refine is_cons ?_; first
              | (refine is_g ?_; first | refine rl_on rfl rfl ?_ | refine rl_off rfl rfl ?_ | refine rl_offU rfl ?_ | (refine rl_case rfl ?_ ?_ <;> (intro h; first | subst h | (simp only [Bool.not_eq_true', Bool.not_eq_false'] at h; subst h))))
              | (refine is_fa ?_; first | refine fa_valn rfl (by (try simp only [nfA, ecase, Nat.reduceAdd]) <;> apply rfl) ?_)
              | (refine is_mv ?_; first | refine mv_val rfl ?_)
              | (refine is_ld ?_; first | refine ld_load rfl (by first | refine lookM_hd | exact lookM_sl rfl lookM_hd | (repeat (first | refine lookM_hd | refine lookM_sl rfl ?_))) rfl (by (try simp only [nfA, ecase, Nat.reduceAdd]) <;> apply rfl) ?_ | refine ld_valn rfl (by (try simp only [nfA, ecase, Nat.reduceAdd]) <;> apply rfl) ?_)
              | (refine is_st ?_; first | refine st_store rfl (by first | refine lookM_hd | exact lookM_sl rfl lookM_hd | (repeat (first | refine lookM_hd | refine lookM_sl rfl ?_))) rfl (by (try simp only [nfA, ecase, Nat.reduceAdd]) <;> apply rfl) ?_)
              | (refine is_as ?_; first | refine as_val rfl ?_ | refine as_new rfl rfl ?_)
              | (refine is_pk ?_; first | refine pk_twoT rfl rfl ?_ | refine pk_twoF rfl rfl ?_ | (refine pk_case rfl ?_ ?_ <;> (intro h; subst h)))
              | (refine is_bd ?_; first | refine bd_valn rfl (by (try simp only [nfA, ecase, Nat.reduceAdd]) <;> apply rfl) ?_)
              | (refine is_bo ?_; first | refine rl_binT rfl ?_ | refine rl_binF rfl ?_ | (refine rl_binB rfl ?_; intro _ _) | (refine rl_half rfl (by (try simp only [maxLen_eq, List.length_map, decide_eq_true_eq, decide_eq_false_iff_not] at *); omega) ?_) | (refine rl_binW rfl (by (try simp only [maxLen_eq, List.length_map, decide_eq_true_eq, decide_eq_false_iff_not] at *); omega) ?_) | refine bo_val rfl ?_)
              | (refine is_ex ?_; first | (refine rl_extB rfl ?_; intro _ _) | refine ex_valn rfl (by (try simp only [nfA, ecase, Nat.reduceAdd]) <;> apply rfl) ?_)
              | (refine is_al ?_; first | refine al_alloc rfl (by (try simp only [nfA, ecase, Nat.reduceAdd]) <;> apply rfl) ?_)
              | (refine is_bx ?_; first | refine bx_alloc rfl (by (try simp only [nfA, ecase, Nat.reduceAdd]) <;> apply rfl) ?_)
              | (refine is_uo ?_; first | refine uo_val rfl ?_)
              | (refine is_bi ?_; first | refine bi_val rfl ?_ | refine bi_own rfl (by first | refine lookB_hd | exact lookB_tt lookB_hd | (repeat (first | refine lookB_hd | refine lookB_sl rfl ?_))) ?_ ?_ | refine bi_needN rfl ?_ ?_ | (refine bi_gated rfl (by (try simp only [nfA, ecase, Nat.reduceAdd]) <;> apply rfl) ?_; intro _))
              | (refine is_cf 54 ?_; first | (refine cfB (f54_calls _ _ _ _) rfl ⟨.inl rfl, .inl rfl, .inl rfl, .inl rfl, trivial⟩ ?_; intro _ _) | (refine cfB (f54_calls _ _ _ _) rfl ⟨(by first | exact .inl rfl | exact .inr (.inl rfl) | exact .inr (.inr ⟨_, _, rfl, rfl⟩)), (by first | exact .inl rfl | exact .inr (.inl rfl) | exact .inr (.inr ⟨_, _, rfl, rfl⟩)), (by first | exact .inl rfl | exact .inr (.inl rfl) | exact .inr (.inr ⟨_, _, rfl, rfl⟩)), (by first | exact .inl rfl | exact .inr (.inl rfl) | exact .inr (.inr ⟨_, _, rfl, rfl⟩)), trivial⟩ ?_; intro _ _))
              | (refine is_cf 55 ?_; first | (refine cfB (f55_calls _ _) rfl ⟨.inl rfl, .inl rfl, trivial⟩ ?_; intro _ _) | (refine cfB (f55_calls _ _) rfl ⟨(by first | exact .inl rfl | exact .inr (.inl rfl) | exact .inr (.inr ⟨_, _, rfl, rfl⟩)), (by first | exact .inl rfl | exact .inr (.inl rfl) | exact .inr (.inr ⟨_, _, rfl, rfl⟩)), trivial⟩ ?_; intro _ _))
              | (refine is_cf 56 ?_; refine cf (g56 _) rfl ⟨.inl rfl, .inl rfl, trivial⟩ ?_)
              | (refine is_cf 57 ?_; refine cf hc57 rfl ⟨.inl rfl, .inl rfl, trivial⟩ ?_)
              | (refine is_cf 58 ?_; refine cf hch rfl ⟨.inl rfl, .inl rfl, trivial⟩ ?_))
          | refine rl_nil ?_
          | (refine is_aw ?_; first
              | refine aw_seq ?_
              | refine aw_scope ?_
              | refine aw_reg rfl ?_
              | refine aw_draw rfl ?_
              | refine aw_condT rfl ?_
              | refine aw_condF rfl ?_
              | (refine aw_condN rfl ?_ ?_ <;> (intro h; subst h))
              | (refine aw_cond rfl ?_ ?_ <;> (intro h; subst h))
              | refine aw_skip ?_
              | refine aw_ret ?_
              | refine aw_exit ?_
              | refine aw_block ?_
              | refine aw_label ?_)
          | refine tq_n ?_
          | refine ng_n ?_
          | refine ng_r ?_
          | refine ng_x ?_
          | refine ⟨(rfl : regOk _ _ = true), ?_⟩
          | refine tq_r ?_
          | refine tq_x ?_
          | refine bq_n ?_
          | refine bq_x ?_
          | refine bq_r ?_
          | refine bq_o rfl ?_
          | refine fq_r rfl ?_
          | refine fq_n rfl ?_)
    all_goals clear g56 hc57 hch hbd
    all_goals simp only [at_neg, decide_eq_true_eq, decide_eq_false_iff_not, List.length_map, Bool.not_eq_true', Bool.not_eq_false', maxLen_eq] at *
    all_goals first
      | (simp [normD, norm1, epl, decideP, beyondP, upkeepP, hasP, hasI, lowP, highP, unbP, rightP, sizeP, plan, noEntry, noHold, *]; done)
      | (exfalso; obtain ⟨e, he⟩ := hcs (by assumption); cases he)
  · have hi0 := hk1 rfl
    clear hk1 hk2 hua hch
    subst hi0
    cases H
    all_goals simp only [encRH] at hc57
    all_goals
      repeat' (first
          | (refine is_cons ?_; first
              | (refine is_g ?_; first | refine rl_on rfl rfl ?_ | refine rl_off rfl rfl ?_ | refine rl_offU rfl ?_ | (refine rl_case rfl ?_ ?_ <;> (intro h; first | subst h | (simp only [Bool.not_eq_true', Bool.not_eq_false'] at h; subst h))))
              | (refine is_fa ?_; first | refine fa_valn rfl (by (try simp only [nfA, ecase, Nat.reduceAdd]) <;> apply rfl) ?_)
              | (refine is_mv ?_; first | refine mv_val rfl ?_)
              | (refine is_ld ?_; first | refine ld_load rfl (by first | refine lookM_hd | exact lookM_sl rfl lookM_hd | (repeat (first | refine lookM_hd | refine lookM_sl rfl ?_))) rfl (by (try simp only [nfA, ecase, Nat.reduceAdd]) <;> apply rfl) ?_ | refine ld_valn rfl (by (try simp only [nfA, ecase, Nat.reduceAdd]) <;> apply rfl) ?_)
              | (refine is_st ?_; first | refine st_store rfl (by first | refine lookM_hd | exact lookM_sl rfl lookM_hd | (repeat (first | refine lookM_hd | refine lookM_sl rfl ?_))) rfl (by (try simp only [nfA, ecase, Nat.reduceAdd]) <;> apply rfl) ?_)
              | (refine is_as ?_; first | refine as_val rfl ?_ | refine as_new rfl rfl ?_)
              | (refine is_pk ?_; first | refine pk_twoT rfl rfl ?_ | refine pk_twoF rfl rfl ?_ | (refine pk_case rfl ?_ ?_ <;> (intro h; subst h)))
              | (refine is_bd ?_; first | refine bd_valn rfl (by (try simp only [nfA, ecase, Nat.reduceAdd]) <;> apply rfl) ?_)
              | (refine is_bo ?_; first | refine rl_binT rfl ?_ | refine rl_binF rfl ?_ | (refine rl_binB rfl ?_; intro _ _) | (refine rl_half rfl (by (try simp only [maxLen_eq, List.length_map, decide_eq_true_eq, decide_eq_false_iff_not] at *); omega) ?_) | (refine rl_binW rfl (by (try simp only [maxLen_eq, List.length_map, decide_eq_true_eq, decide_eq_false_iff_not] at *); omega) ?_) | refine bo_val rfl ?_)
              | (refine is_ex ?_; first | (refine rl_extB rfl ?_; intro _ _) | refine ex_valn rfl (by (try simp only [nfA, ecase, Nat.reduceAdd]) <;> apply rfl) ?_)
              | (refine is_al ?_; first | refine al_alloc rfl (by (try simp only [nfA, ecase, Nat.reduceAdd]) <;> apply rfl) ?_)
              | (refine is_bx ?_; first | refine bx_alloc rfl (by (try simp only [nfA, ecase, Nat.reduceAdd]) <;> apply rfl) ?_)
              | (refine is_uo ?_; first | refine uo_val rfl ?_)
              | (refine is_bi ?_; first | refine bi_val rfl ?_ | refine bi_own rfl (by first | refine lookB_hd | exact lookB_tt lookB_hd | (repeat (first | refine lookB_hd | refine lookB_sl rfl ?_))) ?_ ?_ | refine bi_needN rfl ?_ ?_ | (refine bi_gated rfl (by (try simp only [nfA, ecase, Nat.reduceAdd]) <;> apply rfl) ?_; intro _))
              | (refine is_cf 54 ?_; first | (refine cfB (f54_calls _ _ _ _) rfl ⟨.inl rfl, .inl rfl, .inl rfl, .inl rfl, trivial⟩ ?_; intro _ _) | (refine cfB (f54_calls _ _ _ _) rfl ⟨(by first | exact .inl rfl | exact .inr (.inl rfl) | exact .inr (.inr ⟨_, _, rfl, rfl⟩)), (by first | exact .inl rfl | exact .inr (.inl rfl) | exact .inr (.inr ⟨_, _, rfl, rfl⟩)), (by first | exact .inl rfl | exact .inr (.inl rfl) | exact .inr (.inr ⟨_, _, rfl, rfl⟩)), (by first | exact .inl rfl | exact .inr (.inl rfl) | exact .inr (.inr ⟨_, _, rfl, rfl⟩)), trivial⟩ ?_; intro _ _))
              | (refine is_cf 55 ?_; first | (refine cfB (f55_calls _ _) rfl ⟨.inl rfl, .inl rfl, trivial⟩ ?_; intro _ _) | (refine cfB (f55_calls _ _) rfl ⟨(by first | exact .inl rfl | exact .inr (.inl rfl) | exact .inr (.inr ⟨_, _, rfl, rfl⟩)), (by first | exact .inl rfl | exact .inr (.inl rfl) | exact .inr (.inr ⟨_, _, rfl, rfl⟩)), trivial⟩ ?_; intro _ _))
              | (refine is_cf 56 ?_; refine cf (g56 _) rfl ⟨.inl rfl, .inl rfl, trivial⟩ ?_)
              | (refine is_cf 57 ?_; refine cf hc57 rfl ⟨.inl rfl, .inl rfl, trivial⟩ ?_))
          | refine rl_nil ?_
          | (refine is_aw ?_; first
              | refine aw_seq ?_
              | refine aw_scope ?_
              | refine aw_reg rfl ?_
              | refine aw_draw rfl ?_
              | refine aw_condT rfl ?_
              | refine aw_condF rfl ?_
              | (refine aw_condN rfl ?_ ?_ <;> (intro h; subst h))
              | (refine aw_cond rfl ?_ ?_ <;> (intro h; subst h))
              | refine aw_skip ?_
              | refine aw_ret ?_
              | refine aw_exit ?_
              | refine aw_block ?_
              | refine aw_label ?_)
          | refine tq_n ?_
          | refine ng_n ?_
          | refine ng_r ?_
          | refine ng_x ?_
          | refine ⟨(rfl : regOk _ _ = true), ?_⟩
          | refine tq_r ?_
          | refine tq_x ?_
          | refine bq_n ?_
          | refine bq_x ?_
          | refine bq_r ?_
          | refine bq_o rfl ?_
          | refine fq_r rfl ?_
          | refine fq_n rfl ?_)
    all_goals clear g56 hc57 hbd
    all_goals simp only [at_neg, decide_eq_true_eq, decide_eq_false_iff_not, List.length_map, Bool.not_eq_true', Bool.not_eq_false', maxLen_eq] at *
    all_goals first
      | (simp [normD, norm1, epl, decideP, beyondP, upkeepP, hasP, hasI, lowP, highP, unbP, rightP, sizeP, plan, noEntry, noHold, *]; done)
      | (have h0 : rro = [] := List.length_eq_zero_iff.1 (by omega)
         have h1 : ¬ lr < 0 := by omega
         subst h0
         simp [normD, norm1, epl, decideP, beyondP, upkeepP, hasP, hasI, lowP, highP, unbP, rightP, sizeP, plan, noEntry, noHold, *]; done)
      | (have h0 : 0 < rro.length := by omega
         simp [normD, norm1, epl, decideP, beyondP, upkeepP, hasP, hasI, lowP, highP, unbP, rightP, sizeP, plan, noEntry, noHold, *]; done)
      | skip
end Go.Proofs.Ytehhgamkijkjgaa.AM.TT
-- tt
-- import Mod4
namespace Go.Proofs.Ytehhgamkijkjgaa.AM.TT
open Go Go.Proofs.Ytehhgamkijkjgaa.AM Go.Proofs
set_option linter.unusedSimpArgs false
set_option linter.unusedVariables false
set_option maxHeartbeats 2000000
attribute [local irreducible] RunL AWp StepK OpK thenQ blockQ noGotoQ fnQ fnEQ
theorem enter4 : EnterOk Try.prog 4 := EnterOk_of (fn := Try.f4) (by kernel_rfl) (by kernel_rfl) (by kernel_rfl)
theorem f4_calls (c : Case) : CallsD Try.prog 4 [.agg (ecase c)] (.bool true) := by
  refine CallsD_bd enter4 fun hbd => CallsD_of good mixed (fn := Try.f4) (by kernel_rfl) rfl enter4 (Nat.le_of_ble_eq_true rfl) ?_
  show AWp _ _ _ _ _ ⟨[(0, _)], [], [], 0⟩
  have hc26 := f26_calls c
  cases hf : fewC c with
  | false =>
    rw [hf] at hc26
    obtain ⟨n, ch, ab, so, ke, li, wr⟩ := c
    repeat' (first
        | (refine is_cons ?_; first
            | (refine is_g ?_; first | refine rl_on rfl rfl ?_ | refine rl_off rfl rfl ?_ | refine rl_offU rfl ?_ | (refine rl_case rfl ?_ ?_ <;> (intro h; first | subst h | (simp only [Bool.not_eq_true', Bool.not_eq_false'] at h; subst h))))
            | (refine is_ld ?_; first | refine ld_load rfl (by first | refine lookM_hd | exact lookM_sl rfl lookM_hd | (repeat (first | refine lookM_hd | refine lookM_sl rfl ?_))) rfl (by (try simp only [nfA, ecase, Nat.reduceAdd]) <;> apply rfl) ?_ | refine ld_valn rfl (by (try simp only [nfA, ecase, Nat.reduceAdd]) <;> apply rfl) ?_)
            | (refine is_fa ?_; first | refine fa_valn rfl (by (try simp only [nfA, ecase, Nat.reduceAdd]) <;> apply rfl) ?_)
            | (refine is_al ?_; first | refine al_alloc rfl (by (try simp only [nfA, ecase, Nat.reduceAdd]) <;> apply rfl) ?_)
            | (refine is_st ?_; first | refine st_store rfl (by first | refine lookM_hd | exact lookM_sl rfl lookM_hd | (repeat (first | refine lookM_hd | refine lookM_sl rfl ?_))) rfl (by (try simp only [nfA, ecase, Nat.reduceAdd]) <;> apply rfl) ?_)
            | (refine is_as ?_; first | refine as_val rfl ?_ | refine as_new rfl rfl ?_)
            | (refine is_ex ?_; first | (refine rl_extB rfl ?_; intro _ _) | refine ex_valn rfl (by (try simp only [nfA, ecase, Nat.reduceAdd]) <;> apply rfl) ?_)
            | (refine is_mv ?_; first | refine mv_val rfl ?_)
            | (refine is_uo ?_; first | refine uo_val rfl ?_)
            | (refine is_bo ?_; first | refine rl_binT rfl ?_ | refine rl_binF rfl ?_ | (refine rl_binB rfl ?_; intro _ _) | (refine rl_half rfl (by (try simp only [maxLen_eq, List.length_map, decide_eq_true_eq, decide_eq_false_iff_not] at *); omega) ?_) | (refine rl_binW rfl (by (try simp only [maxLen_eq, List.length_map, decide_eq_true_eq, decide_eq_false_iff_not] at *); omega) ?_) | refine bo_val rfl ?_)
            | (refine is_pk ?_; first | refine pk_twoT rfl rfl ?_ | refine pk_twoF rfl rfl ?_ | (refine pk_case rfl ?_ ?_ <;> (intro h; subst h)))
            | (refine is_bx ?_; first | refine bx_alloc rfl (by (try simp only [nfA, ecase, Nat.reduceAdd]) <;> apply rfl) ?_)
            | (refine is_bd ?_; first | refine bd_valn rfl (by (try simp only [nfA, ecase, Nat.reduceAdd]) <;> apply rfl) ?_)
            | (refine is_cf 26 ?_; refine cf hc26 rfl ⟨.inl rfl, trivial⟩ ?_)
            | (refine is_cf 27 ?_; first | refine cf (f27_calls) rfl trivial ?_ | refine cf (f27_calls) rfl trivial ?_))
        | refine rl_nil ?_
        | (refine is_aw ?_; first
            | refine aw_seq ?_
            | refine aw_scope ?_
            | refine aw_reg rfl ?_
            | refine aw_draw rfl ?_
            | refine aw_condT rfl ?_
            | refine aw_condF rfl ?_
            | (refine aw_condN rfl ?_ ?_ <;> (intro h; subst h))
            | (refine aw_cond rfl ?_ ?_ <;> (intro h; subst h))
            | refine aw_skip ?_
            | refine aw_ret ?_
            | refine aw_exit ?_
            | refine aw_block ?_
            | refine aw_label ?_)
        | refine tq_n ?_
        | refine ng_n ?_
        | refine ng_r ?_
        | refine ng_x ?_
        | refine ⟨(rfl : regOk _ _ = true), ?_⟩
        | refine tq_r ?_
        | refine tq_x ?_
        | refine bq_n ?_
        | refine bq_x ?_
        | refine bq_r ?_
        | refine bq_o rfl ?_
        | refine fq_r rfl ?_
        | refine fq_n rfl ?_)
    all_goals rfl
  | true =>
    rw [hf] at hc26
    have hc28 := f28_calls c hf
    cases hp : madeP c with
    | error e =>
      simp only [encM, hp] at hc28
      obtain ⟨n, ch, ab, so, ke, li, wr⟩ := c
      repeat' (first
          | (refine is_cons ?_; first
              | (refine is_g ?_; first | refine rl_on rfl rfl ?_ | refine rl_off rfl rfl ?_ | refine rl_offU rfl ?_ | (refine rl_case rfl ?_ ?_ <;> (intro h; first | subst h | (simp only [Bool.not_eq_true', Bool.not_eq_false'] at h; subst h))))
              | (refine is_ld ?_; first | refine ld_load rfl (by first | refine lookM_hd | exact lookM_sl rfl lookM_hd | (repeat (first | refine lookM_hd | refine lookM_sl rfl ?_))) rfl (by (try simp only [nfA, ecase, Nat.reduceAdd]) <;> apply rfl) ?_ | refine ld_valn rfl (by (try simp only [nfA, ecase, Nat.reduceAdd]) <;> apply rfl) ?_)
              | (refine is_fa ?_; first | refine fa_valn rfl (by (try simp only [nfA, ecase, Nat.reduceAdd]) <;> apply rfl) ?_)
              | (refine is_al ?_; first | refine al_alloc rfl (by (try simp only [nfA, ecase, Nat.reduceAdd]) <;> apply rfl) ?_)
              | (refine is_st ?_; first | refine st_store rfl (by first | refine lookM_hd | exact lookM_sl rfl lookM_hd | (repeat (first | refine lookM_hd | refine lookM_sl rfl ?_))) rfl (by (try simp only [nfA, ecase, Nat.reduceAdd]) <;> apply rfl) ?_)
              | (refine is_as ?_; first | refine as_val rfl ?_ | refine as_new rfl rfl ?_)
              | (refine is_ex ?_; first | (refine rl_extB rfl ?_; intro _ _) | refine ex_valn rfl (by (try simp only [nfA, ecase, Nat.reduceAdd]) <;> apply rfl) ?_)
              | (refine is_mv ?_; first | refine mv_val rfl ?_)
              | (refine is_uo ?_; first | refine uo_val rfl ?_)
              | (refine is_bo ?_; first | refine rl_binT rfl ?_ | refine rl_binF rfl ?_ | (refine rl_binB rfl ?_; intro _ _) | (refine rl_half rfl (by (try simp only [maxLen_eq, List.length_map, decide_eq_true_eq, decide_eq_false_iff_not] at *); omega) ?_) | (refine rl_binW rfl (by (try simp only [maxLen_eq, List.length_map, decide_eq_true_eq, decide_eq_false_iff_not] at *); omega) ?_) | refine bo_val rfl ?_)
              | (refine is_pk ?_; first | refine pk_twoT rfl rfl ?_ | refine pk_twoF rfl rfl ?_ | (refine pk_case rfl ?_ ?_ <;> (intro h; subst h)))
              | (refine is_bx ?_; first | refine bx_alloc rfl (by (try simp only [nfA, ecase, Nat.reduceAdd]) <;> apply rfl) ?_)
              | (refine is_bd ?_; first | refine bd_valn rfl (by (try simp only [nfA, ecase, Nat.reduceAdd]) <;> apply rfl) ?_)
              | (refine is_cf 26 ?_; refine cf hc26 rfl ⟨.inl rfl, trivial⟩ ?_)
              | (refine is_cf 27 ?_; first | refine cf (f27_calls) rfl trivial ?_ | refine cf (f27_calls) rfl trivial ?_)
              | (refine is_cf 28 ?_; refine cf hc28 rfl ⟨.inl rfl, trivial⟩ ?_))
          | refine rl_nil ?_
          | (refine is_aw ?_; first
              | refine aw_seq ?_
              | refine aw_scope ?_
              | refine aw_reg rfl ?_
              | refine aw_draw rfl ?_
              | refine aw_condT rfl ?_
              | refine aw_condF rfl ?_
              | (refine aw_condN rfl ?_ ?_ <;> (intro h; subst h))
              | (refine aw_cond rfl ?_ ?_ <;> (intro h; subst h))
              | refine aw_skip ?_
              | refine aw_ret ?_
              | refine aw_exit ?_
              | refine aw_block ?_
              | refine aw_label ?_)
          | refine tq_n ?_
          | refine ng_n ?_
          | refine ng_r ?_
          | refine ng_x ?_
          | refine ⟨(rfl : regOk _ _ = true), ?_⟩
          | refine tq_r ?_
          | refine tq_x ?_
          | refine bq_n ?_
          | refine bq_x ?_
          | refine bq_r ?_
          | refine bq_o rfl ?_
          | refine fq_r rfl ?_
          | refine fq_n rfl ?_)
      all_goals first
        | contradiction
        | rfl
    | ok p =>
      have hl := madeP_len hf hp
      have hc29 := f29_calls c p hf hp
      have hu := madeA_up c
      have hpo := madeP_ok hp
      simp only [encM, hp] at hc28
      generalize madeA c = A at hc28 hc29 hu
      have hc30 := f30_calls_all p A c.key c.limits c.writes hl.1 hl.2
      have hc31 := f31_calls p A c.key c.limits c.writes hpo hu
      generalize decideP p A c.key c.limits c.writes = X at hc30 hc31
      clear hu hpo hp hf hl
      obtain ⟨n, ch, ab, so, ke, li, wr⟩ := c
      simp only at hc30 hc31
      repeat' (first
          | (refine is_cons ?_; first
              | (refine is_g ?_; first | refine rl_on rfl rfl ?_ | refine rl_off rfl rfl ?_ | refine rl_offU rfl ?_ | (refine rl_case rfl ?_ ?_ <;> (intro h; first | subst h | (simp only [Bool.not_eq_true', Bool.not_eq_false'] at h; subst h))))
              | (refine is_ld ?_; first | refine ld_load rfl (by first | refine lookM_hd | exact lookM_sl rfl lookM_hd | (repeat (first | refine lookM_hd | refine lookM_sl rfl ?_))) rfl (by (try simp only [nfA, ecase, Nat.reduceAdd]) <;> apply rfl) ?_ | refine ld_valn rfl (by (try simp only [nfA, ecase, Nat.reduceAdd]) <;> apply rfl) ?_)
              | (refine is_fa ?_; first | refine fa_valn rfl (by (try simp only [nfA, ecase, Nat.reduceAdd]) <;> apply rfl) ?_)
              | (refine is_al ?_; first | refine al_alloc rfl (by (try simp only [nfA, ecase, Nat.reduceAdd]) <;> apply rfl) ?_)
              | (refine is_st ?_; first | refine st_store rfl (by first | refine lookM_hd | exact lookM_sl rfl lookM_hd | (repeat (first | refine lookM_hd | refine lookM_sl rfl ?_))) rfl (by (try simp only [nfA, ecase, Nat.reduceAdd]) <;> apply rfl) ?_)
              | (refine is_as ?_; first | refine as_val rfl ?_ | refine as_new rfl rfl ?_)
              | (refine is_ex ?_; first | (refine rl_extB rfl ?_; intro _ _) | refine ex_valn rfl (by (try simp only [nfA, ecase, Nat.reduceAdd]) <;> apply rfl) ?_)
              | (refine is_mv ?_; first | refine mv_val rfl ?_)
              | (refine is_uo ?_; first | refine uo_val rfl ?_)
              | (refine is_bo ?_; first | refine rl_binT rfl ?_ | refine rl_binF rfl ?_ | (refine rl_binB rfl ?_; intro _ _) | (refine rl_half rfl (by (try simp only [maxLen_eq, List.length_map, decide_eq_true_eq, decide_eq_false_iff_not] at *); omega) ?_) | (refine rl_binW rfl (by (try simp only [maxLen_eq, List.length_map, decide_eq_true_eq, decide_eq_false_iff_not] at *); omega) ?_) | refine bo_val rfl ?_)
              | (refine is_pk ?_; first | refine pk_twoT rfl rfl ?_ | refine pk_twoF rfl rfl ?_ | (refine pk_case rfl ?_ ?_ <;> (intro h; subst h)))
              | (refine is_bx ?_; first | refine bx_alloc rfl (by (try simp only [nfA, ecase, Nat.reduceAdd]) <;> apply rfl) ?_)
              | (refine is_bd ?_; first | refine bd_valn rfl (by (try simp only [nfA, ecase, Nat.reduceAdd]) <;> apply rfl) ?_)
              | (refine is_cf 26 ?_; refine cf hc26 rfl ⟨.inl rfl, trivial⟩ ?_)
              | (refine is_cf 27 ?_; first | refine cf (f27_calls) rfl trivial ?_ | refine cf (f27_calls) rfl trivial ?_)
              | (refine is_cf 28 ?_; refine cf hc28 rfl ⟨.inl rfl, trivial⟩ ?_)
              | (refine is_cf 29 ?_; refine cf hc29 rfl ⟨.inl rfl, trivial⟩ ?_)
              | (refine is_cf 30 ?_; refine cf hc30 rfl ⟨.inl rfl, .inl rfl, .inl rfl, .inl rfl, .inl rfl, trivial⟩ ?_)
              | (refine is_cf 31 ?_; refine cf hc31 rfl ⟨.inl rfl, .inl rfl, .inl rfl, .inl rfl, .inl rfl, trivial⟩ ?_))
          | refine rl_nil ?_
          | (refine is_aw ?_; first
              | refine aw_seq ?_
              | refine aw_scope ?_
              | refine aw_reg rfl ?_
              | refine aw_draw rfl ?_
              | refine aw_condT rfl ?_
              | refine aw_condF rfl ?_
              | (refine aw_condN rfl ?_ ?_ <;> (intro h; subst h))
              | (refine aw_cond rfl ?_ ?_ <;> (intro h; subst h))
              | refine aw_skip ?_
              | refine aw_ret ?_
              | refine aw_exit ?_
              | refine aw_block ?_
              | refine aw_label ?_)
          | refine tq_n ?_
          | refine ng_n ?_
          | refine ng_r ?_
          | refine ng_x ?_
          | refine ⟨(rfl : regOk _ _ = true), ?_⟩
          | refine tq_r ?_
          | refine tq_x ?_
          | refine bq_n ?_
          | refine bq_x ?_
          | refine bq_r ?_
          | refine bq_o rfl ?_
          | refine fq_r rfl ?_
          | refine fq_n rfl ?_)
      all_goals first
        | contradiction
        | rfl
        | (exfalso; simp at *; done)
        | skip
end Go.Proofs.Ytehhgamkijkjgaa.AM.TT
