/- Contracts of the functions and their models, by the abstract machine. -/
import Derived.Test.YtbeafnkcimfeeaaDoorPfH42
-- tt
namespace Go.Proofs.YtbeafnkcimfeeaaDoor.AM.TT
set_option linter.unusedVariables false
set_option linter.unusedSimpArgs false
open Go Go.Proofs.YtbeafnkcimfeeaaDoor.AM Go.Proofs
set_option linter.unusedSimpArgs false
set_option linter.unusedVariables false
set_option maxHeartbeats 1000000
attribute [local irreducible] RunL AWp StepK OpK thenQ blockQ noGotoQ fnQ fnEQ
def fewR (v : LView) : Rec := { noRec with rows := v.rows, low := v.low, high := v.high }
def w0 : LView := ⟨[], [], true, 0, [⟨[97], []⟩, ⟨[98], []⟩, ⟨[99], []⟩, ⟨[100], []⟩], false⟩
theorem half0 : CallsD Tryd.prog 93 [.lst 2 (ers w0.rows)] (.tup [.str [99], .lst 2 (ers (w0.rows.take 2)), .lst 2 (ers (w0.rows.drop 2)), .nilI]) :=
  f93_calls w0.rows ⟨[98], []⟩ ⟨[99], []⟩ (by decide) rfl rfl (by decide) (by decide)
theorem split0 : CallsD Tryd.prog 29 [.agg (ev w0), I 3] (.tup [.agg (ec (splitR [99] 3)), .agg (ec (baseR (rightV w0 [99] (w0.rows.drop 2)))), .nilI]) :=
  f29_calls_ok w0 3 [99] _ _ (by decide) (f66_calls_ok w0 [99] _ _ rfl half0)
theorem foldw0 : foldL [splitR [99] 3, baseR w0] = .ok ⟨[], [99], false, 3, w0.rows.take 2, false⟩ := by rfl
theorem folded0 : CallsD Tryd.prog 10 [.lst 15 (ecs [splitR [99] 3, baseR w0])] (.tup [.agg (ev ⟨[], [99], false, 3, w0.rows.take 2, false⟩), .nilI]) := by
  have := f10_calls [splitR [99] 3, baseR w0] (by decide)
  rw [foldw0] at this
  exact this
theorem enter8 : EnterOk Tryd.prog 8 := EnterOk_of (fn := Tryd.f8) (by kernel_rfl) (by kernel_rfl) (by kernel_rfl)
theorem f8_calls  : CallsD Tryd.prog 8 [] (.bool true) := by
  refine CallsD_bd enter8 fun hbd => CallsD_of good mixed (fn := Tryd.f8) (by kernel_rfl) rfl enter8 (Nat.le_of_ble_eq_true rfl) ?_
  show AWp _ _ _ _ _ ⟨[], [], [], 0⟩
  repeat' (first | (refine is_cons ?_; first | (refine is_g ?_; first | refine rl_on rfl rfl ?_ | refine rl_off rfl rfl ?_ | refine rl_offU rfl ?_ | (refine rl_case rfl ?_ ?_ <;> (intro h; first | subst h | (simp only [Bool.not_eq_true', Bool.not_eq_false'] at h; subst h)))) | (refine is_mv ?_; first | refine mv_val rfl ?_) | (refine is_ld ?_; first | refine ld_load rfl (by first | refine lookM_hd | exact lookM_sl rfl lookM_hd | (repeat (first | refine lookM_hd | refine lookM_sl rfl ?_))) rfl (by (try simp only [nfA, T_md, Nat.reduceAdd]) <;> apply rfl) ?_ | refine ld_valn rfl (by (try simp only [nfA, T_md, Nat.reduceAdd]) <;> apply rfl) ?_) | (refine is_bo ?_; first | refine rl_binT rfl ?_ | refine rl_binF rfl ?_ | (refine rl_binB rfl ?_; intro _ _) | (refine rl_half rfl (by (try simp only [maxLen_eq, List.length_map, decide_eq_true_eq, decide_eq_false_iff_not] at *); omega) ?_) | (refine rl_binW rfl (by (try simp only [maxLen_eq, List.length_map, decide_eq_true_eq, decide_eq_false_iff_not] at *); omega) ?_) | refine bo_val rfl ?_) | (refine is_pk ?_; first | refine pk_twoT rfl rfl ?_ | refine pk_twoF rfl rfl ?_ | (refine pk_case rfl ?_ ?_ <;> (intro h; subst h))) | (refine is_fa ?_; first | refine fa_valn rfl (by (try simp only [nfA, T_md, Nat.reduceAdd]) <;> apply rfl) ?_) | (refine is_ex ?_; first | (refine rl_extB rfl ?_; intro _ _) | refine ex_valn rfl (by (try simp only [nfA, T_md, Nat.reduceAdd]) <;> apply rfl) ?_) | (refine is_bd ?_; first | refine bd_valn rfl (by (try simp only [nfA, T_md, Nat.reduceAdd]) <;> apply rfl) ?_) | (refine is_as ?_; first | refine as_val rfl ?_ | refine as_new rfl rfl ?_) | (refine is_al ?_; first | refine al_alloc rfl (by (try simp only [nfA, T_md, Nat.reduceAdd]) <;> apply rfl) ?_) | (refine is_st ?_; first | refine st_store rfl (by first | refine lookM_hd | exact lookM_sl rfl lookM_hd | (repeat (first | refine lookM_hd | refine lookM_sl rfl ?_))) rfl (by (try simp only [nfA, T_md, Nat.reduceAdd]) <;> apply rfl) ?_) | (refine is_bs ?_; first | refine bs_new rfl (by (try simp only [nfA, T_md, Nat.reduceAdd]) <;> apply rfl) ?_) | (refine is_bi ?_; first | refine bi_val rfl ?_ | refine bi_own rfl (by first | refine lookB_hd | exact lookB_tt lookB_hd | (repeat (first | refine lookB_hd | refine lookB_sl rfl ?_))) ?_ ?_ | refine bi_needN rfl ?_ ?_ | (refine bi_gated rfl (by (try simp only [nfA, T_md, Nat.reduceAdd]) <;> apply rfl) ?_; intro _)) | (refine is_cf 29 ?_; refine cf split0 rfl ⟨.inl rfl, .inl rfl, trivial⟩ ?_) | (refine is_cf 30 ?_; refine cf (f30_calls w0 (by decide)) rfl ⟨.inl rfl, trivial⟩ ?_) | (refine is_cf 10 ?_; refine cf folded0 rfl ⟨(by first | exact .inl rfl | exact .inr (.inl rfl)), trivial⟩ ?_)) | refine rl_nil ?_ | (refine is_aw ?_; first | refine aw_seq ?_ | refine aw_scope ?_ | refine aw_reg rfl ?_ | refine aw_draw rfl ?_ | refine aw_condT rfl ?_ | refine aw_condF rfl ?_ | (refine aw_condN rfl ?_ ?_ <;> (intro h; subst h)) | (refine aw_cond rfl ?_ ?_ <;> (intro h; subst h)) | refine aw_skip ?_ | refine aw_ret ?_ | refine aw_exit ?_ | refine aw_block ?_ | refine aw_label ?_) | refine tq_n ?_ | refine ng_n ?_ | refine ng_r ?_ | refine ng_x ?_ | refine ⟨(rfl : regOk _ _ = true), ?_⟩ | refine tq_r ?_ | refine tq_x ?_ | refine bq_n ?_ | refine bq_x ?_ | refine bq_r ?_ | refine bq_o rfl ?_ | refine fq_r rfl ?_ | refine fq_n rfl ?_)
  all_goals first
    | rfl
    | skip
end Go.Proofs.YtbeafnkcimfeeaaDoor.AM.TT
