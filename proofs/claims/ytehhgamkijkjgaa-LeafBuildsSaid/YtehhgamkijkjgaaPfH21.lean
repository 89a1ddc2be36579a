/- Contracts of the functions, by the abstract machine. -/
import Derived.Test.YtehhgamkijkjgaaPfH20
namespace Go.Proofs.Ytehhgamkijkjgaa.AM.TT
open Go Go.Proofs.Ytehhgamkijkjgaa.AM Go.Proofs
set_option linter.unusedSimpArgs false
set_option linter.unusedVariables false
attribute [local irreducible] RunL AWp StepK OpK thenQ blockQ noGotoQ fnQ fnEQ
-- import Mod4
def encM (c : Case) : DV := match madeP c with
  | .ok p => .tup [.agg (epg p), .agg (eab (madeA c)), .bool true]
  | .error _ => .tup [.agg (epg noPage), .agg (eab (madeA c)), .bool false]
theorem ents_le {l : List Rec} (h : szI l l.length ≤ 140) : ∀ r ∈ l, r.ents.length ≤ 1000000 := by
  intro r hr
  obtain ⟨j, hj⟩ := List.getElem?_of_mem hr
  have h1 := szI_succ hj
  have h2 := szI_le l (j + 1)
  omega
theorem enter28 : EnterOk Try.prog 28 := EnterOk_of (fn := Try.f28) (by kernel_rfl) (by kernel_rfl) (by kernel_rfl)
theorem f28_calls (c : Case) (hf : fewC c = true) : CallsD Try.prog 28 [.agg (ecase c)] (encM c) := by
  refine CallsD_bd enter28 fun hbd => CallsD_of good mixed (fn := Try.f28) (by kernel_rfl) rfl enter28 (Nat.le_of_ble_eq_true rfl) ?_
  show AWp _ _ _ _ _ ⟨[(0, _)], [], [], 0⟩
  simp only [fewC, Bool.and_eq_true] at hf
  obtain ⟨⟨⟨⟨q1, q2⟩, q3⟩, q4⟩, q5⟩ := hf
  have z1 := fewM_sz q1
  have z2 := fewM8_sz q2
  have z4 := fewM8_sz q4
  have hc48 := f48_calls_all c.n ⟨1, 1⟩ c.chain [] (by omega) (by omega) (ents_le z2) (by simp)
  have hc49 := f49_calls c.above (by omega)
  obtain ⟨n, ch, ab, so, ke, li, wr⟩ := c
  simp only at hc48 hc49
  cases hp : ofP n ⟨1, 1⟩ ch [] with
  | ok p =>
    rw [hp] at hc48
    simp only [encP] at hc48
    cases ha : foldI ab with
    | ok v =>
      rw [ha] at hc49
      simp only [encI] at hc49
      repeat' (first
          | (refine is_cons ?_; first
              | (refine is_g ?_; first | refine rl_on rfl rfl ?_ | refine rl_off rfl rfl ?_ | refine rl_offU rfl ?_ | (refine rl_case rfl ?_ ?_ <;> (intro h; first | subst h | (simp only [Bool.not_eq_true', Bool.not_eq_false'] at h; subst h))))
              | (refine is_ld ?_; first | refine ld_load rfl (by first | rfl | (repeat (first | exact lookM_hd | refine lookM_sl rfl ?_))) rfl (by (try simp only [nfA, ecase, Nat.reduceAdd]) <;> exact rfl) ?_ | refine ld_valn rfl (by (try simp only [nfA, ecase, Nat.reduceAdd]) <;> exact rfl) ?_)
              | (refine is_mv ?_; first | refine mv_val rfl ?_)
              | (refine is_as ?_; first | refine as_val rfl ?_ | refine as_new rfl rfl ?_)
              | (refine is_fa ?_; first | refine fa_valn rfl (by (try simp only [nfA, ecase, Nat.reduceAdd]) <;> exact rfl) ?_)
              | (refine is_ex ?_; first | (refine rl_extB rfl ?_; intro _ _) | refine ex_valn rfl (by (try simp only [nfA, ecase, Nat.reduceAdd]) <;> exact rfl) ?_)
              | (refine is_al ?_; first | refine al_alloc rfl (by (try simp only [nfA, ecase, Nat.reduceAdd]) <;> exact rfl) ?_)
              | (refine is_st ?_; first | refine st_store rfl (by first | rfl | (repeat (first | exact lookM_hd | refine lookM_sl rfl ?_))) rfl (by (try simp only [nfA, ecase, Nat.reduceAdd]) <;> exact rfl) ?_)
              | (refine is_bo ?_; first | refine rl_binT rfl ?_ | refine rl_binF rfl ?_ | (refine rl_binB rfl ?_; intro _ _) | (refine rl_half rfl (by (try simp only [maxLen_eq, List.length_map, decide_eq_true_eq, decide_eq_false_iff_not] at *); omega) ?_) | (refine rl_binW rfl (by (try simp only [maxLen_eq, List.length_map, decide_eq_true_eq, decide_eq_false_iff_not] at *); omega) ?_) | refine bo_val rfl ?_)
              | (refine is_bd ?_; first | refine bd_valn rfl (by (try simp only [nfA, ecase, Nat.reduceAdd]) <;> exact rfl) ?_)
              | (refine is_pk ?_; first | refine pk_twoT rfl rfl ?_ | refine pk_twoF rfl rfl ?_ | (refine pk_case rfl ?_ ?_ <;> (intro h; subst h)))
              | (refine is_bx ?_; first | refine bx_alloc rfl (by (try simp only [nfA, ecase, Nat.reduceAdd]) <;> exact rfl) ?_)
              | (refine is_cf 48 ?_; refine cf hc48 rfl ⟨.inl rfl, .inl rfl, .inl rfl, .inr (.inr ⟨_, _, rfl, rfl⟩), trivial⟩ ?_)
              | (refine is_cf 49 ?_; refine cf hc49 rfl ⟨.inl rfl, trivial⟩ ?_))
          | refine rl_nil ?_
          | (refine is_aw ?_; first
              | refine aw_seq ?_
              | refine aw_scope ?_
              | refine aw_reg rfl ?_
              | refine aw_draw rfl ?_
              | refine aw_condT rfl ?_
              | refine aw_condF rfl ?_
              | (refine aw_condN rfl ?_ ?_ <;> (intro h; subst h))
              | (refine aw_cond rfl ?_ ?_ <;> (intro h; subst h))
              | refine aw_skip ?_
              | refine aw_ret ?_
              | refine aw_exit ?_
              | refine aw_block ?_
              | refine aw_label ?_)
          | refine tq_n ?_
          | refine ng_n ?_
          | refine ng_r ?_
          | refine ng_x ?_
          | refine ⟨(rfl : regOk _ _ = true), ?_⟩
          | refine tq_r ?_
          | refine tq_x ?_
          | refine bq_n ?_
          | refine bq_x ?_
          | refine bq_r ?_
          | refine bq_o rfl ?_
          | refine fq_r rfl ?_
          | refine fq_n rfl ?_)
      all_goals simp [normD, norm1, encM, madeP, madeA, hp, ha, epg, eab, ei, ev, noRef, noIView, noHold, noPage, noView]
    | error cc =>
      rw [ha] at hc49
      simp only [encI] at hc49
      repeat' (first
          | (refine is_cons ?_; first
              | (refine is_g ?_; first | refine rl_on rfl rfl ?_ | refine rl_off rfl rfl ?_ | refine rl_offU rfl ?_ | (refine rl_case rfl ?_ ?_ <;> (intro h; first | subst h | (simp only [Bool.not_eq_true', Bool.not_eq_false'] at h; subst h))))
              | (refine is_ld ?_; first | refine ld_load rfl (by first | rfl | (repeat (first | exact lookM_hd | refine lookM_sl rfl ?_))) rfl (by (try simp only [nfA, ecase, Nat.reduceAdd]) <;> exact rfl) ?_ | refine ld_valn rfl (by (try simp only [nfA, ecase, Nat.reduceAdd]) <;> exact rfl) ?_)
              | (refine is_mv ?_; first | refine mv_val rfl ?_)
              | (refine is_as ?_; first | refine as_val rfl ?_ | refine as_new rfl rfl ?_)
              | (refine is_fa ?_; first | refine fa_valn rfl (by (try simp only [nfA, ecase, Nat.reduceAdd]) <;> exact rfl) ?_)
              | (refine is_ex ?_; first | (refine rl_extB rfl ?_; intro _ _) | refine ex_valn rfl (by (try simp only [nfA, ecase, Nat.reduceAdd]) <;> exact rfl) ?_)
              | (refine is_al ?_; first | refine al_alloc rfl (by (try simp only [nfA, ecase, Nat.reduceAdd]) <;> exact rfl) ?_)
              | (refine is_st ?_; first | refine st_store rfl (by first | rfl | (repeat (first | exact lookM_hd | refine lookM_sl rfl ?_))) rfl (by (try simp only [nfA, ecase, Nat.reduceAdd]) <;> exact rfl) ?_)
              | (refine is_bo ?_; first | refine rl_binT rfl ?_ | refine rl_binF rfl ?_ | (refine rl_binB rfl ?_; intro _ _) | (refine rl_half rfl (by (try simp only [maxLen_eq, List.length_map, decide_eq_true_eq, decide_eq_false_iff_not] at *); omega) ?_) | (refine rl_binW rfl (by (try simp only [maxLen_eq, List.length_map, decide_eq_true_eq, decide_eq_false_iff_not] at *); omega) ?_) | refine bo_val rfl ?_)
              | (refine is_bd ?_; first | refine bd_valn rfl (by (try simp only [nfA, ecase, Nat.reduceAdd]) <;> exact rfl) ?_)
              | (refine is_pk ?_; first | refine pk_twoT rfl rfl ?_ | refine pk_twoF rfl rfl ?_ | (refine pk_case rfl ?_ ?_ <;> (intro h; subst h)))
              | (refine is_bx ?_; first | refine bx_alloc rfl (by (try simp only [nfA, ecase, Nat.reduceAdd]) <;> exact rfl) ?_)
              | (refine is_cf 48 ?_; refine cf hc48 rfl ⟨.inl rfl, .inl rfl, .inl rfl, .inr (.inr ⟨_, _, rfl, rfl⟩), trivial⟩ ?_)
              | (refine is_cf 49 ?_; refine cf hc49 rfl ⟨.inl rfl, trivial⟩ ?_))
          | refine rl_nil ?_
          | (refine is_aw ?_; first
              | refine aw_seq ?_
              | refine aw_scope ?_
              | refine aw_reg rfl ?_
              | refine aw_draw rfl ?_
              | refine aw_condT rfl ?_
              | refine aw_condF rfl ?_
              | (refine aw_condN rfl ?_ ?_ <;> (intro h; subst h))
              | (refine aw_cond rfl ?_ ?_ <;> (intro h; subst h))
              | refine aw_skip ?_
              | refine aw_ret ?_
              | refine aw_exit ?_
              | refine aw_block ?_
              | refine aw_label ?_)
          | refine tq_n ?_
          | refine ng_n ?_
          | refine ng_r ?_
          | refine ng_x ?_
          | refine ⟨(rfl : regOk _ _ = true), ?_⟩
          | refine tq_r ?_
          | refine tq_x ?_
          | refine bq_n ?_
          | refine bq_x ?_
          | refine bq_r ?_
          | refine bq_o rfl ?_
          | refine fq_r rfl ?_
          | refine fq_n rfl ?_)
      all_goals simp [normD, norm1, encM, madeP, madeA, hp, ha, epg, eab, ei, ev, noRef, noIView, noHold, noPage, noView]
  | error pc =>
    rw [hp] at hc48
    simp only [encP] at hc48
    cases ha : foldI ab with
    | ok v =>
      rw [ha] at hc49
      simp only [encI] at hc49
      repeat' (first
          | (refine is_cons ?_; first
              | (refine is_g ?_; first | refine rl_on rfl rfl ?_ | refine rl_off rfl rfl ?_ | refine rl_offU rfl ?_ | (refine rl_case rfl ?_ ?_ <;> (intro h; first | subst h | (simp only [Bool.not_eq_true', Bool.not_eq_false'] at h; subst h))))
              | (refine is_ld ?_; first | refine ld_load rfl (by first | rfl | (repeat (first | exact lookM_hd | refine lookM_sl rfl ?_))) rfl (by (try simp only [nfA, ecase, Nat.reduceAdd]) <;> exact rfl) ?_ | refine ld_valn rfl (by (try simp only [nfA, ecase, Nat.reduceAdd]) <;> exact rfl) ?_)
              | (refine is_mv ?_; first | refine mv_val rfl ?_)
              | (refine is_as ?_; first | refine as_val rfl ?_ | refine as_new rfl rfl ?_)
              | (refine is_fa ?_; first | refine fa_valn rfl (by (try simp only [nfA, ecase, Nat.reduceAdd]) <;> exact rfl) ?_)
              | (refine is_ex ?_; first | (refine rl_extB rfl ?_; intro _ _) | refine ex_valn rfl (by (try simp only [nfA, ecase, Nat.reduceAdd]) <;> exact rfl) ?_)
              | (refine is_al ?_; first | refine al_alloc rfl (by (try simp only [nfA, ecase, Nat.reduceAdd]) <;> exact rfl) ?_)
              | (refine is_st ?_; first | refine st_store rfl (by first | rfl | (repeat (first | exact lookM_hd | refine lookM_sl rfl ?_))) rfl (by (try simp only [nfA, ecase, Nat.reduceAdd]) <;> exact rfl) ?_)
              | (refine is_bo ?_; first | refine rl_binT rfl ?_ | refine rl_binF rfl ?_ | (refine rl_binB rfl ?_; intro _ _) | (refine rl_half rfl (by (try simp only [maxLen_eq, List.length_map, decide_eq_true_eq, decide_eq_false_iff_not] at *); omega) ?_) | (refine rl_binW rfl (by (try simp only [maxLen_eq, List.length_map, decide_eq_true_eq, decide_eq_false_iff_not] at *); omega) ?_) | refine bo_val rfl ?_)
              | (refine is_bd ?_; first | refine bd_valn rfl (by (try simp only [nfA, ecase, Nat.reduceAdd]) <;> exact rfl) ?_)
              | (refine is_pk ?_; first | refine pk_twoT rfl rfl ?_ | refine pk_twoF rfl rfl ?_ | (refine pk_case rfl ?_ ?_ <;> (intro h; subst h)))
              | (refine is_bx ?_; first | refine bx_alloc rfl (by (try simp only [nfA, ecase, Nat.reduceAdd]) <;> exact rfl) ?_)
              | (refine is_cf 48 ?_; refine cf hc48 rfl ⟨.inl rfl, .inl rfl, .inl rfl, .inr (.inr ⟨_, _, rfl, rfl⟩), trivial⟩ ?_)
              | (refine is_cf 49 ?_; refine cf hc49 rfl ⟨.inl rfl, trivial⟩ ?_))
          | refine rl_nil ?_
          | (refine is_aw ?_; first
              | refine aw_seq ?_
              | refine aw_scope ?_
              | refine aw_reg rfl ?_
              | refine aw_draw rfl ?_
              | refine aw_condT rfl ?_
              | refine aw_condF rfl ?_
              | (refine aw_condN rfl ?_ ?_ <;> (intro h; subst h))
              | (refine aw_cond rfl ?_ ?_ <;> (intro h; subst h))
              | refine aw_skip ?_
              | refine aw_ret ?_
              | refine aw_exit ?_
              | refine aw_block ?_
              | refine aw_label ?_)
          | refine tq_n ?_
          | refine ng_n ?_
          | refine ng_r ?_
          | refine ng_x ?_
          | refine ⟨(rfl : regOk _ _ = true), ?_⟩
          | refine tq_r ?_
          | refine tq_x ?_
          | refine bq_n ?_
          | refine bq_x ?_
          | refine bq_r ?_
          | refine bq_o rfl ?_
          | refine fq_r rfl ?_
          | refine fq_n rfl ?_)
      all_goals simp [normD, norm1, encM, madeP, madeA, hp, ha, epg, eab, ei, ev, noRef, noIView, noHold, noPage, noView]
    | error cc =>
      rw [ha] at hc49
      simp only [encI] at hc49
      repeat' (first
          | (refine is_cons ?_; first
              | (refine is_g ?_; first | refine rl_on rfl rfl ?_ | refine rl_off rfl rfl ?_ | refine rl_offU rfl ?_ | (refine rl_case rfl ?_ ?_ <;> (intro h; first | subst h | (simp only [Bool.not_eq_true', Bool.not_eq_false'] at h; subst h))))
              | (refine is_ld ?_; first | refine ld_load rfl (by first | rfl | (repeat (first | exact lookM_hd | refine lookM_sl rfl ?_))) rfl (by (try simp only [nfA, ecase, Nat.reduceAdd]) <;> exact rfl) ?_ | refine ld_valn rfl (by (try simp only [nfA, ecase, Nat.reduceAdd]) <;> exact rfl) ?_)
              | (refine is_mv ?_; first | refine mv_val rfl ?_)
              | (refine is_as ?_; first | refine as_val rfl ?_ | refine as_new rfl rfl ?_)
              | (refine is_fa ?_; first | refine fa_valn rfl (by (try simp only [nfA, ecase, Nat.reduceAdd]) <;> exact rfl) ?_)
              | (refine is_ex ?_; first | (refine rl_extB rfl ?_; intro _ _) | refine ex_valn rfl (by (try simp only [nfA, ecase, Nat.reduceAdd]) <;> exact rfl) ?_)
              | (refine is_al ?_; first | refine al_alloc rfl (by (try simp only [nfA, ecase, Nat.reduceAdd]) <;> exact rfl) ?_)
              | (refine is_st ?_; first | refine st_store rfl (by first | rfl | (repeat (first | exact lookM_hd | refine lookM_sl rfl ?_))) rfl (by (try simp only [nfA, ecase, Nat.reduceAdd]) <;> exact rfl) ?_)
              | (refine is_bo ?_; first | refine rl_binT rfl ?_ | refine rl_binF rfl ?_ | (refine rl_binB rfl ?_; intro _ _) | (refine rl_half rfl (by (try simp only [maxLen_eq, List.length_map, decide_eq_true_eq, decide_eq_false_iff_not] at *); omega) ?_) | (refine rl_binW rfl (by (try simp only [maxLen_eq, List.length_map, decide_eq_true_eq, decide_eq_false_iff_not] at *); omega) ?_) | refine bo_val rfl ?_)
              | (refine is_bd ?_; first | refine bd_valn rfl (by (try simp only [nfA, ecase, Nat.reduceAdd]) <;> exact rfl) ?_)
              | (refine is_pk ?_; first | refine pk_twoT rfl rfl ?_ | refine pk_twoF rfl rfl ?_ | (refine pk_case rfl ?_ ?_ <;> (intro h; subst h)))
              | (refine is_bx ?_; first | refine bx_alloc rfl (by (try simp only [nfA, ecase, Nat.reduceAdd]) <;> exact rfl) ?_)
              | (refine is_cf 48 ?_; refine cf hc48 rfl ⟨.inl rfl, .inl rfl, .inl rfl, .inr (.inr ⟨_, _, rfl, rfl⟩), trivial⟩ ?_)
              | (refine is_cf 49 ?_; refine cf hc49 rfl ⟨.inl rfl, trivial⟩ ?_))
          | refine rl_nil ?_
          | (refine is_aw ?_; first
              | refine aw_seq ?_
              | refine aw_scope ?_
              | refine aw_reg rfl ?_
              | refine aw_draw rfl ?_
              | refine aw_condT rfl ?_
              | refine aw_condF rfl ?_
              | (refine aw_condN rfl ?_ ?_ <;> (intro h; subst h))
              | (refine aw_cond rfl ?_ ?_ <;> (intro h; subst h))
              | refine aw_skip ?_
              | refine aw_ret ?_
              | refine aw_exit ?_
              | refine aw_block ?_
              | refine aw_label ?_)
          | refine tq_n ?_
          | refine ng_n ?_
          | refine ng_r ?_
          | refine ng_x ?_
          | refine ⟨(rfl : regOk _ _ = true), ?_⟩
          | refine tq_r ?_
          | refine tq_x ?_
          | refine bq_n ?_
          | refine bq_x ?_
          | refine bq_r ?_
          | refine bq_o rfl ?_
          | refine fq_r rfl ?_
          | refine fq_n rfl ?_)
      all_goals simp [normD, norm1, encM, madeP, madeA, hp, ha, epg, eab, ei, ev, noRef, noIView, noHold, noPage, noView]
end Go.Proofs.Ytehhgamkijkjgaa.AM.TT
