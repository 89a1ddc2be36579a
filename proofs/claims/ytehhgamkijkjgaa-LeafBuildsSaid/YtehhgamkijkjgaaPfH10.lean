/- Contracts of the functions, by the abstract machine. -/
import Derived.Test.YtehhgamkijkjgaaPfH9
namespace Go.Proofs.Ytehhgamkijkjgaa.AM.TT
open Go Go.Proofs.Ytehhgamkijkjgaa.AM Go.Proofs
set_option linter.unusedSimpArgs false
set_option linter.unusedVariables false
attribute [local irreducible] RunL AWp StepK OpK thenQ blockQ noGotoQ fnQ fnEQ
theorem enter37 : EnterOk Try.prog 37 := EnterOk_of (fn := Try.f37) (by kernel_rfl) (by kernel_rfl) (by kernel_rfl)
theorem f37_calls (k : Int) : CallsD Try.prog 37 [I k] (.str (nameP k)) := by
  refine CallsD_bd enter37 fun hbd => CallsD_of good mixed (fn := Try.f37) (by kernel_rfl) rfl enter37 (Nat.le_of_ble_eq_true rfl) ?_
  show AWp _ _ _ _ _ ⟨[(0, _)], [], [], 0⟩
  repeat' (first
      | (refine is_cons ?_; first
          | (refine is_as ?_; first | refine as_val rfl ?_ | refine as_new rfl rfl ?_)
          | (refine is_bo ?_; first | refine rl_binT rfl ?_ | refine rl_binF rfl ?_ | (refine rl_binB rfl ?_; intro _ _) | (refine rl_half rfl (by (try simp only [maxLen_eq, List.length_map, decide_eq_true_eq, decide_eq_false_iff_not] at *); omega) ?_) | (refine rl_binW rfl (by (try simp only [maxLen_eq, List.length_map, decide_eq_true_eq, decide_eq_false_iff_not] at *); omega) ?_) | refine bo_val rfl ?_)
          | (refine is_mv ?_; first | refine mv_val rfl ?_))
      | refine rl_nil ?_
      | (refine is_aw ?_; first
          | refine aw_seq ?_
          | refine aw_scope ?_
          | refine aw_reg rfl ?_
          | refine aw_draw rfl ?_
          | refine aw_condT rfl ?_
          | refine aw_condF rfl ?_
          | (refine aw_condN rfl ?_ ?_ <;> (intro h; subst h))
          | (refine aw_cond rfl ?_ ?_ <;> (intro h; subst h))
          | refine aw_skip ?_
          | refine aw_ret ?_
          | refine aw_exit ?_
          | refine aw_block ?_
          | refine aw_label ?_)
      | refine tq_n ?_
      | refine ng_n ?_
      | refine ng_r ?_
      | refine ng_x ?_
      | refine ⟨(rfl : regOk _ _ = true), ?_⟩
      | refine tq_r ?_
      | refine tq_x ?_
      | refine bq_n ?_
      | refine bq_x ?_
      | refine bq_r ?_
      | refine bq_o rfl ?_
      | refine fq_r rfl ?_
      | refine fq_n rfl ?_)
  all_goals
    simp only [decide_eq_true_eq, decide_eq_false_iff_not] at *
    simp_all [normD, norm1, nameP]
theorem enter53 : EnterOk Try.prog 53 := EnterOk_of (fn := Try.f53) (by kernel_rfl) (by kernel_rfl) (by kernel_rfl)
theorem f53_calls (p : Page) (a : Above) (l : Limits) (hn : p.leaf = true → sizeP p ≤ 0 → a.some = true → a.view.held = true) (h1 : p.rows.rows.length ≤ 1000000) (h2 : p.inner.ents.length ≤ 1000000) : CallsD Try.prog 53 [.agg (epg p), .agg (eab a), .agg (eli l)] (.tup [.agg (epl (upkA p l).1), .bool (upkA p l).2]) := by
  refine CallsD_bd enter53 fun hbd => CallsD_of good mixed (fn := Try.f53) (by kernel_rfl) rfl enter53 (Nat.le_of_ble_eq_true rfl) ?_
  show AWp _ _ _ _ _ ⟨[(0, _), (1, _), (2, _)], [], [], 0⟩
  obtain ⟨n, h, c, rf, lf, rw, inn⟩ := p
  obtain ⟨s, an, ah, av⟩ := a
  obtain ⟨al, ah, au, ar, ae, aheld, aho⟩ := av
  simp only at h1 h2
  repeat' (first
      | (refine is_cons ?_; first
          | (refine is_g ?_; first | refine rl_on rfl rfl ?_ | refine rl_off rfl rfl ?_ | refine rl_offU rfl ?_ | (refine rl_case rfl ?_ ?_ <;> (intro h; first | subst h | (simp only [Bool.not_eq_true', Bool.not_eq_false'] at h; subst h))))
          | (refine is_ld ?_; first | refine ld_load rfl (by first | rfl | (repeat (first | exact lookM_hd | refine lookM_sl rfl ?_))) rfl (by (try simp only [nfA, Nat.reduceAdd]) <;> exact rfl) ?_ | refine ld_valn rfl (by (try simp only [nfA, Nat.reduceAdd]) <;> exact rfl) ?_)
          | (refine is_as ?_; first | refine as_val rfl ?_ | refine as_new rfl rfl ?_)
          | (refine is_fa ?_; first | refine fa_valn rfl (by (try simp only [nfA, Nat.reduceAdd]) <;> exact rfl) ?_)
          | (refine is_mv ?_; first | refine mv_val rfl ?_)
          | (refine is_bo ?_; first | refine rl_binT rfl ?_ | refine rl_binF rfl ?_ | (refine rl_binB rfl ?_; intro _ _) | (refine rl_half rfl (by (try simp only [maxLen_eq, List.length_map, decide_eq_true_eq, decide_eq_false_iff_not] at *); omega) ?_) | (refine rl_binW rfl (by (try simp only [maxLen_eq, List.length_map, decide_eq_true_eq, decide_eq_false_iff_not] at *); omega) ?_) | refine bo_val rfl ?_)
          | (refine is_st ?_; first | refine st_store rfl (by first | rfl | (repeat (first | exact lookM_hd | refine lookM_sl rfl ?_))) rfl (by (try simp only [nfA, Nat.reduceAdd]) <;> exact rfl) ?_)
          | (refine is_bd ?_; first | refine bd_valn rfl (by (try simp only [nfA, Nat.reduceAdd]) <;> exact rfl) ?_)
          | (refine is_pk ?_; first | refine pk_twoT rfl rfl ?_ | refine pk_twoF rfl rfl ?_ | (refine pk_case rfl ?_ ?_ <;> (intro h; subst h)))
          | (refine is_bx ?_; first | refine bx_alloc rfl (by (try simp only [nfA, Nat.reduceAdd]) <;> exact rfl) ?_)
          | (refine is_ex ?_; first | (refine rl_extB rfl ?_; intro _ _) | refine ex_valn rfl (by (try simp only [nfA, Nat.reduceAdd]) <;> exact rfl) ?_)
          | (refine is_al ?_; first | refine al_alloc rfl (by (try simp only [nfA, Nat.reduceAdd]) <;> exact rfl) ?_)
          | (refine is_uo ?_; first | refine uo_val rfl ?_)
          | (refine is_bi ?_; first | (refine bi_gated rfl (by (try simp only [nfA, Nat.reduceAdd]) <;> exact rfl) ?_; intro _) | refine bi_val rfl ?_ | refine bi_own rfl (by first | rfl | (repeat (first | exact lookB_hd | refine lookB_sl rfl ?_))) ?_ ?_ | refine bi_needN rfl ?_ ?_)
          | (refine is_cf 36 ?_; first | refine cf (f36_calls ⟨n, h, c, rf, _, rw, inn⟩ h1 h2) rfl ⟨.inl rfl, trivial⟩ ?_ | refine cf (f36_calls ⟨n, h, c, rf, _, rw, inn⟩ h1 h2) rfl ⟨(by first | exact .inl rfl | exact .inr (.inl rfl) | exact .inr (.inr ⟨_, _, rfl, rfl⟩)), trivial⟩ ?_))
      | refine rl_nil ?_
      | (refine is_aw ?_; first
          | refine aw_seq ?_
          | refine aw_scope ?_
          | refine aw_reg rfl ?_
          | refine aw_draw rfl ?_
          | refine aw_condT rfl ?_
          | refine aw_condF rfl ?_
          | (refine aw_condN rfl ?_ ?_ <;> (intro h; subst h))
          | (refine aw_cond rfl ?_ ?_ <;> (intro h; subst h))
          | refine aw_skip ?_
          | refine aw_ret ?_
          | refine aw_exit ?_
          | refine aw_block ?_
          | refine aw_label ?_)
      | refine tq_n ?_
      | refine ng_n ?_
      | refine ng_r ?_
      | refine ng_x ?_
      | refine ⟨(rfl : regOk _ _ = true), ?_⟩
      | refine tq_r ?_
      | refine tq_x ?_
      | refine bq_n ?_
      | refine bq_x ?_
      | refine bq_r ?_
      | refine bq_o rfl ?_
      | refine fq_r rfl ?_
      | refine fq_n rfl ?_)
  all_goals
    simp only [List.length_map, decide_eq_true_eq, decide_eq_false_iff_not] at *
    simp only [sizeP] at *
    first
    | (simp [normD, norm1, epl, upkA, sizeP, plan, noEntry, noHold, *]; done)
    | (exfalso; simp_all; done)
    | (exfalso; simp_all; omega)
theorem enter30 : EnterOk Try.prog 30 := EnterOk_of (fn := Try.f30) (by kernel_rfl) (by kernel_rfl) (by kernel_rfl)
theorem f30_calls_leaf (p : Page) (a : Above) (k : Str) (l : Limits) (w : Bool) (hl : p.leaf = true) (hh : hasP p k = true) (ha : a.some = false) (h1 : p.rows.rows.length ≤ 1000000) (h2 : p.inner.ents.length ≤ 1000000) : CallsD Try.prog 30 [.agg (epg p), .agg (eab a), .str k, .agg (eli l), .bool w] (.agg (epl (if p.rows.gone then plan 3 else if w && (upkA p l).2 then (upkA p l).1 else plan 10))) := by
  refine CallsD_bd enter30 fun hbd => CallsD_of good mixed (fn := Try.f30) (by kernel_rfl) rfl enter30 (Nat.le_of_ble_eq_true rfl) ?_
  show AWp _ _ _ _ _ ⟨[(0, _), (1, _), (2, _), (3, _), (4, _)], [], [], 0⟩
  have hu : p.leaf = true → sizeP p ≤ 0 → a.some = true → a.view.held = true := by simp [ha]
  obtain ⟨n, h, c, rf, lf, ⟨rl, rh, ru, rr, rs, rg⟩, inn⟩ := p
  obtain ⟨s, an, ah, av⟩ := a
  simp only at hl ha h1 h2
  subst hl ha
  repeat' (first
      | (refine is_cons ?_; first
          | (refine is_g ?_; first | refine rl_on rfl rfl ?_ | refine rl_off rfl rfl ?_ | refine rl_offU rfl ?_ | (refine rl_case rfl ?_ ?_ <;> (intro h; first | subst h | (simp only [Bool.not_eq_true', Bool.not_eq_false'] at h; subst h))))
          | (refine is_ld ?_; first | refine ld_load rfl (by first | rfl | (repeat (first | exact lookM_hd | refine lookM_sl rfl ?_))) rfl (by (try simp only [nfA, Nat.reduceAdd]) <;> exact rfl) ?_ | refine ld_valn rfl (by (try simp only [nfA, Nat.reduceAdd]) <;> exact rfl) ?_)
          | (refine is_mv ?_; first | refine mv_val rfl ?_)
          | (refine is_fa ?_; first | refine fa_valn rfl (by (try simp only [nfA, Nat.reduceAdd]) <;> exact rfl) ?_)
          | (refine is_st ?_; first | refine st_store rfl (by first | rfl | (repeat (first | exact lookM_hd | refine lookM_sl rfl ?_))) rfl (by (try simp only [nfA, Nat.reduceAdd]) <;> exact rfl) ?_)
          | (refine is_as ?_; first | refine as_val rfl ?_ | refine as_new rfl rfl ?_)
          | (refine is_bd ?_; first | refine bd_valn rfl (by (try simp only [nfA, Nat.reduceAdd]) <;> exact rfl) ?_)
          | (refine is_ex ?_; first | (refine rl_extB rfl ?_; intro _ _) | refine ex_valn rfl (by (try simp only [nfA, Nat.reduceAdd]) <;> exact rfl) ?_)
          | (refine is_pk ?_; first | refine pk_twoT rfl rfl ?_ | refine pk_twoF rfl rfl ?_ | (refine pk_case rfl ?_ ?_ <;> (intro h; subst h)))
          | (refine is_al ?_; first | refine al_alloc rfl (by (try simp only [nfA, Nat.reduceAdd]) <;> exact rfl) ?_)
          | (refine is_bx ?_; first | refine bx_alloc rfl (by (try simp only [nfA, Nat.reduceAdd]) <;> exact rfl) ?_)
          | (refine is_uo ?_; first | refine uo_val rfl ?_)
          | (refine is_bo ?_; first | refine rl_binT rfl ?_ | refine rl_binF rfl ?_ | (refine rl_binB rfl ?_; intro _ _) | (refine rl_half rfl (by (try simp only [maxLen_eq, List.length_map, decide_eq_true_eq, decide_eq_false_iff_not] at *); omega) ?_) | (refine rl_binW rfl (by (try simp only [maxLen_eq, List.length_map, decide_eq_true_eq, decide_eq_false_iff_not] at *); omega) ?_) | refine bo_val rfl ?_)
          | (refine is_cf 33 ?_; first | (refine cfB (f33_calls ⟨n, h, c, rf, _, ⟨rl, rh, ru, rr, rs, _⟩, inn⟩ _) rfl ⟨.inl rfl, .inl rfl, trivial⟩ ?_; intro _ _) | (refine cfB (f33_calls ⟨n, h, c, rf, _, ⟨rl, rh, ru, rr, rs, _⟩, inn⟩ _) rfl ⟨(by first | exact .inl rfl | exact .inr (.inl rfl) | exact .inr (.inr ⟨_, _, rfl, rfl⟩)), (by first | exact .inl rfl | exact .inr (.inl rfl) | exact .inr (.inr ⟨_, _, rfl, rfl⟩)), trivial⟩ ?_; intro _ _))
          | (refine is_cf 53 ?_; first | refine cf (f53_calls ⟨n, h, c, rf, _, ⟨rl, rh, ru, rr, rs, _⟩, inn⟩ ⟨_, an, ah, av⟩ l hu h1 h2) rfl ⟨.inl rfl, .inl rfl, .inl rfl, trivial⟩ ?_ | refine cf (f53_calls ⟨n, h, c, rf, _, ⟨rl, rh, ru, rr, rs, _⟩, inn⟩ ⟨_, an, ah, av⟩ l hu h1 h2) rfl ⟨(by first | exact .inl rfl | exact .inr (.inl rfl) | exact .inr (.inr ⟨_, _, rfl, rfl⟩)), (by first | exact .inl rfl | exact .inr (.inl rfl) | exact .inr (.inr ⟨_, _, rfl, rfl⟩)), (by first | exact .inl rfl | exact .inr (.inl rfl) | exact .inr (.inr ⟨_, _, rfl, rfl⟩)), trivial⟩ ?_))
      | refine rl_nil ?_
      | (refine is_aw ?_; first
          | refine aw_seq ?_
          | refine aw_scope ?_
          | refine aw_reg rfl ?_
          | refine aw_draw rfl ?_
          | refine aw_condT rfl ?_
          | refine aw_condF rfl ?_
          | (refine aw_condN rfl ?_ ?_ <;> (intro h; subst h))
          | (refine aw_cond rfl ?_ ?_ <;> (intro h; subst h))
          | refine aw_skip ?_
          | refine aw_ret ?_
          | refine aw_exit ?_
          | refine aw_block ?_
          | refine aw_label ?_)
      | refine tq_n ?_
      | refine ng_n ?_
      | refine ng_r ?_
      | refine ng_x ?_
      | refine ⟨(rfl : regOk _ _ = true), ?_⟩
      | refine tq_r ?_
      | refine tq_x ?_
      | refine bq_n ?_
      | refine bq_x ?_
      | refine bq_r ?_
      | refine bq_o rfl ?_
      | refine fq_r rfl ?_
      | refine fq_n rfl ?_)
  all_goals
    simp_all [normD, norm1, epl, plan, noEntry, noHold]
end Go.Proofs.Ytehhgamkijkjgaa.AM.TT
