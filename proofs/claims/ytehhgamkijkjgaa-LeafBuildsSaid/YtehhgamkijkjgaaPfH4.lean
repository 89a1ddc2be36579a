/- Contracts of the functions, by the abstract machine. -/
import Derived.Test.YtehhgamkijkjgaaPfH3
namespace Go.Proofs.Ytehhgamkijkjgaa.AM.TT
open Go Go.Proofs.Ytehhgamkijkjgaa.AM Go.Proofs
set_option linter.unusedSimpArgs false
set_option linter.unusedVariables false
attribute [local irreducible] RunL AWp StepK OpK thenQ blockQ noGotoQ fnQ fnEQ
theorem enter97 : EnterOk Try.prog 97 := EnterOk_of (fn := Try.f97) (by kernel_rfl) (by kernel_rfl) (by kernel_rfl)
theorem eq_n {T : Tab} {fn : Func} {d ep : Nat} {S : Key → Bool} {out : List (Key × List PV)} {nw : List Nat} {r : DV} {s : LSt} (h : fnE T fn d ep S out nw r s) : fnEQ T fn d ep S out nw r .normal s := by unfold fnEQ; exact h
theorem eq_r {T : Tab} {fn : Func} {d ep : Nat} {S : Key → Bool} {out : List (Key × List PV)} {nw : List Nat} {r : DV} {s : LSt} (h : fnE T fn d ep S out nw r s) : fnEQ T fn d ep S out nw r .ret s := by unfold fnEQ; exact h
abbrev takeIn (low high : Str) (u : Bool) (x : PV) : List (Key × List PV) := [((5, 0, 1), [.dat (.str low), .dat (.str high), .dat (.bool u)]), ((9, 0, 2), [x]), ((6, 0, 1), [.dat (I 0)])]
abbrev takeArgs (r : Row) : List PV := [.dat (.agg (er r)), .ptr (5, 0, 1) 0, .ptr (9, 0, 2) 0, .ptr (6, 0, 1) 0]
abbrev takeKeys : List Key := [(5, 0, 1), (9, 0, 2), (6, 0, 1)]
theorem f97_acc_in (r : Row) (low high : Str) (u : Bool) (out : List Row) (t d ep : Nat) (h : inS low high u r.key = true) (hs : out.length ≤ 1000000) :
    CallE Try.prog 97 (takeArgs r) (takeIn low high u (.acc (31, 0, t) 2 (ers out))) d ep { val := .dat (.bool true), wr := takeIn low high u (.acc (d, 0, ep) 2 (ers (out ++ [r]))), rd := takeKeys, use := [(31, 0, t)], nw := [0] } := by
  refine CallE_of good mixed (fn := Try.f97) (by kernel_rfl) rfl enter97 (Nat.le_of_ble_eq_true rfl) rfl (by simp) rfl (by simp [ptrInL, ptrIn]) ?_
  simp only [renL, ren, initP, List.map_cons, List.map_nil, finK, List.contains_cons, BEq.rfl, Bool.true_or, if_true, takeIn, takeArgs]
  repeat' (first
      | (refine is_cons ?_; first
          | (refine is_g ?_; first | refine rl_on rfl rfl ?_ | refine rl_off rfl rfl ?_ | refine rl_offU rfl ?_ | (refine rl_case rfl ?_ ?_ <;> (intro h; first | subst h | (simp only [Bool.not_eq_true', Bool.not_eq_false'] at h; subst h))))
          | (refine is_ld ?_; first | refine ld_load rfl (by first | rfl | (repeat (first | exact lookM_hd | refine lookM_sl rfl ?_))) rfl (by (try simp only [nfA, Nat.reduceAdd]) <;> exact rfl) ?_ | refine ld_valn rfl (by (try simp only [nfA, Nat.reduceAdd]) <;> exact rfl) ?_)
          | (refine is_fa ?_; first | refine fa_valn rfl (by (try simp only [nfA, Nat.reduceAdd]) <;> exact rfl) ?_)
          | (refine is_as ?_; first | refine as_val rfl ?_ | refine as_new rfl rfl ?_)
          | (refine is_bo ?_; first | refine rl_binT rfl ?_ | refine rl_binF rfl ?_ | (refine rl_binB rfl ?_; intro _ _) | (refine rl_half rfl (by (try simp only [maxLen_eq, List.length_map, decide_eq_true_eq, decide_eq_false_iff_not] at *); omega) ?_) | (refine rl_binW rfl (by (try simp only [maxLen_eq, List.length_map, decide_eq_true_eq, decide_eq_false_iff_not] at *); omega) ?_) | refine bo_val rfl ?_)
          | (refine is_mv ?_; first | refine mv_val rfl ?_)
          | (refine is_pk ?_; first | refine pk_twoT rfl rfl ?_ | refine pk_twoF rfl rfl ?_ | (refine pk_case rfl ?_ ?_ <;> (intro h; subst h)))
          | (refine is_bx ?_; first | refine bx_alloc rfl (by (try simp only [nfA, Nat.reduceAdd]) <;> exact rfl) ?_)
          | (refine is_st ?_; first | refine st_store rfl (by first | rfl | (repeat (first | exact lookM_hd | refine lookM_sl rfl ?_))) rfl (by (try simp only [nfA, Nat.reduceAdd]) <;> exact rfl) ?_)
          | (refine is_bs ?_; first | refine bs_new rfl (by (try simp only [nfA, Nat.reduceAdd]) <;> exact rfl) ?_)
          | (refine is_bi ?_; first | (refine bi_gated rfl (by (try simp only [nfA, Nat.reduceAdd]) <;> exact rfl) ?_; intro _) | refine bi_val rfl ?_ | refine bi_own rfl (by first | rfl | (repeat (first | exact lookB_hd | refine lookB_sl rfl ?_))) ?_ ?_ | refine bi_needN rfl ?_ ?_)
          | (refine is_cf 59 ?_; first | (refine cfB (f59_calls _ _ _ _) rfl ⟨.inl rfl, .inl rfl, .inl rfl, .inl rfl, trivial⟩ ?_; intro _ _) | (refine cfB (f59_calls _ _ _ _) rfl ⟨(by first | exact .inl rfl | exact .inr (.inl rfl) | exact .inr (.inr ⟨_, _, rfl, rfl⟩)), (by first | exact .inl rfl | exact .inr (.inl rfl) | exact .inr (.inr ⟨_, _, rfl, rfl⟩)), (by first | exact .inl rfl | exact .inr (.inl rfl) | exact .inr (.inr ⟨_, _, rfl, rfl⟩)), (by first | exact .inl rfl | exact .inr (.inl rfl) | exact .inr (.inr ⟨_, _, rfl, rfl⟩)), trivial⟩ ?_; intro _ _)))
      | refine rl_nil ?_
      | (refine is_aw ?_; first
          | refine aw_seq ?_
          | refine aw_scope ?_
          | refine aw_reg rfl ?_
          | refine aw_draw rfl ?_
          | refine aw_condT rfl ?_
          | refine aw_condF rfl ?_
          | (refine aw_condN rfl ?_ ?_ <;> (intro h; subst h))
          | (refine aw_cond rfl ?_ ?_ <;> (intro h; subst h))
          | refine aw_skip ?_
          | refine aw_ret ?_
          | refine aw_exit ?_
          | refine aw_block ?_
          | refine aw_label ?_)
      | refine tq_n ?_
      | refine ng_n ?_
      | refine ng_r ?_
      | refine ng_x ?_
      | refine ⟨(rfl : regOk _ _ = true), ?_⟩
      | refine tq_r ?_
      | refine tq_x ?_
      | refine bq_n ?_
      | refine bq_x ?_
      | refine bq_r ?_
      | refine bq_o rfl ?_
      | refine fq_r rfl ?_
      | refine fq_n rfl ?_)
  · simp only [List.length_map, List.length_cons, List.length_nil, maxLen_eq]; omega
  · refine eq_r ⟨rfl, [((18, 0, ep + 1 + 1 + 1), 0)], rfl, by simp, ?_, ?_⟩
    · intro p hp
      simp only [List.mem_singleton] at hp
      subst hp
      exact lookB_hd
    · intro p hp
      simp only [List.mem_cons, List.not_mem_nil, or_false] at hp
      rcases hp with rfl | rfl | rfl
      · exact ⟨_, lookM_sl rfl (lookM_sl rfl lookM_hd), rfl, by simp [renL, ren]⟩
      · exact ⟨_, lookM_hd, rfl, by simp [renL, ren, fout, er]⟩
      · exact ⟨_, lookM_sl rfl (lookM_sl rfl (lookM_sl rfl (lookM_sl rfl lookM_hd))), rfl, by simp [renL, ren]⟩
  · simp_all
theorem f97_nil_in (r : Row) (low high : Str) (u : Bool) (d ep : Nat) (h : inS low high u r.key = true) :
    CallE Try.prog 97 (takeArgs r) (takeIn low high u (.dat (.nil 2))) d ep { val := .dat (.bool true), wr := takeIn low high u (.acc (d, 0, ep) 2 (ers [r])), rd := takeKeys, use := [], nw := [0] } := by
  refine CallE_of good mixed (fn := Try.f97) (by kernel_rfl) rfl enter97 (Nat.le_of_ble_eq_true rfl) rfl (by simp) rfl (by simp [ptrInL, ptrIn]) ?_
  simp only [renL, ren, initP, List.map_cons, List.map_nil, finK, takeIn, takeArgs]
  repeat' (first
      | (refine is_cons ?_; first
          | (refine is_g ?_; first | refine rl_on rfl rfl ?_ | refine rl_off rfl rfl ?_ | refine rl_offU rfl ?_ | (refine rl_case rfl ?_ ?_ <;> (intro h; first | subst h | (simp only [Bool.not_eq_true', Bool.not_eq_false'] at h; subst h))))
          | (refine is_ld ?_; first | refine ld_load rfl (by first | rfl | (repeat (first | exact lookM_hd | refine lookM_sl rfl ?_))) rfl (by (try simp only [nfA, Nat.reduceAdd]) <;> exact rfl) ?_ | refine ld_valn rfl (by (try simp only [nfA, Nat.reduceAdd]) <;> exact rfl) ?_)
          | (refine is_fa ?_; first | refine fa_valn rfl (by (try simp only [nfA, Nat.reduceAdd]) <;> exact rfl) ?_)
          | (refine is_as ?_; first | refine as_val rfl ?_ | refine as_new rfl rfl ?_)
          | (refine is_bo ?_; first | refine rl_binT rfl ?_ | refine rl_binF rfl ?_ | (refine rl_binB rfl ?_; intro _ _) | (refine rl_half rfl (by (try simp only [maxLen_eq, List.length_map, decide_eq_true_eq, decide_eq_false_iff_not] at *); omega) ?_) | (refine rl_binW rfl (by (try simp only [maxLen_eq, List.length_map, decide_eq_true_eq, decide_eq_false_iff_not] at *); omega) ?_) | refine bo_val rfl ?_)
          | (refine is_mv ?_; first | refine mv_val rfl ?_)
          | (refine is_pk ?_; first | refine pk_twoT rfl rfl ?_ | refine pk_twoF rfl rfl ?_ | (refine pk_case rfl ?_ ?_ <;> (intro h; subst h)))
          | (refine is_bx ?_; first | refine bx_alloc rfl (by (try simp only [nfA, Nat.reduceAdd]) <;> exact rfl) ?_)
          | (refine is_st ?_; first | refine st_store rfl (by first | rfl | (repeat (first | exact lookM_hd | refine lookM_sl rfl ?_))) rfl (by (try simp only [nfA, Nat.reduceAdd]) <;> exact rfl) ?_)
          | (refine is_bs ?_; first | refine bs_new rfl (by (try simp only [nfA, Nat.reduceAdd]) <;> exact rfl) ?_)
          | (refine is_bi ?_; first | (refine bi_gated rfl (by (try simp only [nfA, Nat.reduceAdd]) <;> exact rfl) ?_; intro _) | refine bi_val rfl ?_ | refine bi_own rfl (by first | rfl | (repeat (first | exact lookB_hd | refine lookB_sl rfl ?_))) ?_ ?_ | refine bi_needN rfl ?_ ?_)
          | (refine is_cf 59 ?_; first | (refine cfB (f59_calls _ _ _ _) rfl ⟨.inl rfl, .inl rfl, .inl rfl, .inl rfl, trivial⟩ ?_; intro _ _) | (refine cfB (f59_calls _ _ _ _) rfl ⟨(by first | exact .inl rfl | exact .inr (.inl rfl) | exact .inr (.inr ⟨_, _, rfl, rfl⟩)), (by first | exact .inl rfl | exact .inr (.inl rfl) | exact .inr (.inr ⟨_, _, rfl, rfl⟩)), (by first | exact .inl rfl | exact .inr (.inl rfl) | exact .inr (.inr ⟨_, _, rfl, rfl⟩)), (by first | exact .inl rfl | exact .inr (.inl rfl) | exact .inr (.inr ⟨_, _, rfl, rfl⟩)), trivial⟩ ?_; intro _ _)))
      | refine rl_nil ?_
      | (refine is_aw ?_; first
          | refine aw_seq ?_
          | refine aw_scope ?_
          | refine aw_reg rfl ?_
          | refine aw_draw rfl ?_
          | refine aw_condT rfl ?_
          | refine aw_condF rfl ?_
          | (refine aw_condN rfl ?_ ?_ <;> (intro h; subst h))
          | (refine aw_cond rfl ?_ ?_ <;> (intro h; subst h))
          | refine aw_skip ?_
          | refine aw_ret ?_
          | refine aw_exit ?_
          | refine aw_block ?_
          | refine aw_label ?_)
      | refine tq_n ?_
      | refine ng_n ?_
      | refine ng_r ?_
      | refine ng_x ?_
      | refine ⟨(rfl : regOk _ _ = true), ?_⟩
      | refine tq_r ?_
      | refine tq_x ?_
      | refine bq_n ?_
      | refine bq_x ?_
      | refine bq_r ?_
      | refine bq_o rfl ?_
      | refine fq_r rfl ?_
      | refine fq_n rfl ?_)
  · simp only [List.length_map, List.length_cons, List.length_nil, maxLen_eq]; omega
  · refine eq_r ⟨rfl, [((18, 0, ep + 1 + 1 + 1), 0)], rfl, by simp, ?_, ?_⟩
    · intro p hp
      simp only [List.mem_singleton] at hp
      subst hp
      exact lookB_hd
    · intro p hp
      simp only [List.mem_cons, List.not_mem_nil, or_false] at hp
      rcases hp with rfl | rfl | rfl
      · exact ⟨_, lookM_sl rfl (lookM_sl rfl lookM_hd), rfl, by simp [renL, ren]⟩
      · exact ⟨_, lookM_hd, rfl, by simp [renL, ren, fout, er]⟩
      · exact ⟨_, lookM_sl rfl (lookM_sl rfl (lookM_sl rfl (lookM_sl rfl lookM_hd))), rfl, by simp [renL, ren]⟩
  · simp_all
theorem f97_acc_out (r : Row) (low high : Str) (u : Bool) (out : List Row) (t d ep : Nat) (h : inS low high u r.key = false) :
    CallE Try.prog 97 (takeArgs r) (takeIn low high u (.acc (31, 0, t) 2 (ers out))) d ep { val := .dat (.bool true), wr := takeIn low high u (.acc (d, 0, ep) 2 (ers out)), rd := takeKeys, use := [(31, 0, t)], nw := [0] } := by
  refine CallE_of good mixed (fn := Try.f97) (by kernel_rfl) rfl enter97 (Nat.le_of_ble_eq_true rfl) rfl (by simp) rfl (by simp [ptrInL, ptrIn]) ?_
  simp only [renL, ren, initP, List.map_cons, List.map_nil, finK, List.contains_cons, BEq.rfl, Bool.true_or, if_true, takeIn, takeArgs]
  repeat' (first
      | (refine is_cons ?_; first
          | (refine is_g ?_; first | refine rl_on rfl rfl ?_ | refine rl_off rfl rfl ?_ | refine rl_offU rfl ?_ | (refine rl_case rfl ?_ ?_ <;> (intro h; first | subst h | (simp only [Bool.not_eq_true', Bool.not_eq_false'] at h; subst h))))
          | (refine is_ld ?_; first | refine ld_load rfl (by first | rfl | (repeat (first | exact lookM_hd | refine lookM_sl rfl ?_))) rfl (by (try simp only [nfA, Nat.reduceAdd]) <;> exact rfl) ?_ | refine ld_valn rfl (by (try simp only [nfA, Nat.reduceAdd]) <;> exact rfl) ?_)
          | (refine is_fa ?_; first | refine fa_valn rfl (by (try simp only [nfA, Nat.reduceAdd]) <;> exact rfl) ?_)
          | (refine is_as ?_; first | refine as_val rfl ?_ | refine as_new rfl rfl ?_)
          | (refine is_bo ?_; first | refine rl_binT rfl ?_ | refine rl_binF rfl ?_ | (refine rl_binB rfl ?_; intro _ _) | (refine rl_half rfl (by (try simp only [maxLen_eq, List.length_map, decide_eq_true_eq, decide_eq_false_iff_not] at *); omega) ?_) | (refine rl_binW rfl (by (try simp only [maxLen_eq, List.length_map, decide_eq_true_eq, decide_eq_false_iff_not] at *); omega) ?_) | refine bo_val rfl ?_)
          | (refine is_mv ?_; first | refine mv_val rfl ?_)
          | (refine is_pk ?_; first | refine pk_twoT rfl rfl ?_ | refine pk_twoF rfl rfl ?_ | (refine pk_case rfl ?_ ?_ <;> (intro h; subst h)))
          | (refine is_bx ?_; first | refine bx_alloc rfl (by (try simp only [nfA, Nat.reduceAdd]) <;> exact rfl) ?_)
          | (refine is_st ?_; first | refine st_store rfl (by first | rfl | (repeat (first | exact lookM_hd | refine lookM_sl rfl ?_))) rfl (by (try simp only [nfA, Nat.reduceAdd]) <;> exact rfl) ?_)
          | (refine is_bs ?_; first | refine bs_new rfl (by (try simp only [nfA, Nat.reduceAdd]) <;> exact rfl) ?_)
          | (refine is_bi ?_; first | (refine bi_gated rfl (by (try simp only [nfA, Nat.reduceAdd]) <;> exact rfl) ?_; intro _) | refine bi_val rfl ?_ | refine bi_own rfl (by first | rfl | (repeat (first | exact lookB_hd | refine lookB_sl rfl ?_))) ?_ ?_ | refine bi_needN rfl ?_ ?_)
          | (refine is_cf 59 ?_; first | (refine cfB (f59_calls _ _ _ _) rfl ⟨.inl rfl, .inl rfl, .inl rfl, .inl rfl, trivial⟩ ?_; intro _ _) | (refine cfB (f59_calls _ _ _ _) rfl ⟨(by first | exact .inl rfl | exact .inr (.inl rfl) | exact .inr (.inr ⟨_, _, rfl, rfl⟩)), (by first | exact .inl rfl | exact .inr (.inl rfl) | exact .inr (.inr ⟨_, _, rfl, rfl⟩)), (by first | exact .inl rfl | exact .inr (.inl rfl) | exact .inr (.inr ⟨_, _, rfl, rfl⟩)), (by first | exact .inl rfl | exact .inr (.inl rfl) | exact .inr (.inr ⟨_, _, rfl, rfl⟩)), trivial⟩ ?_; intro _ _)))
      | refine rl_nil ?_
      | (refine is_aw ?_; first
          | refine aw_seq ?_
          | refine aw_scope ?_
          | refine aw_reg rfl ?_
          | refine aw_draw rfl ?_
          | refine aw_condT rfl ?_
          | refine aw_condF rfl ?_
          | (refine aw_condN rfl ?_ ?_ <;> (intro h; subst h))
          | (refine aw_cond rfl ?_ ?_ <;> (intro h; subst h))
          | refine aw_skip ?_
          | refine aw_ret ?_
          | refine aw_exit ?_
          | refine aw_block ?_
          | refine aw_label ?_)
      | refine tq_n ?_
      | refine ng_n ?_
      | refine ng_r ?_
      | refine ng_x ?_
      | refine ⟨(rfl : regOk _ _ = true), ?_⟩
      | refine tq_r ?_
      | refine tq_x ?_
      | refine bq_n ?_
      | refine bq_x ?_
      | refine bq_r ?_
      | refine bq_o rfl ?_
      | refine fq_r rfl ?_
      | refine fq_n rfl ?_)
  · simp_all
  · simp_all
  · refine eq_r ⟨rfl, [((31, 0, t), 0)], rfl, by simp, ?_, ?_⟩
    · intro p hp
      simp only [List.mem_singleton] at hp
      subst hp
      exact lookB_hd
    · intro p hp
      simp only [List.mem_cons, List.not_mem_nil, or_false] at hp
      rcases hp with rfl | rfl | rfl
      · exact ⟨_, lookM_sl rfl lookM_hd, rfl, by simp [renL, ren]⟩
      · exact ⟨_, lookM_sl rfl (lookM_sl rfl lookM_hd), rfl, by simp [renL, ren, fout, er]⟩
      · exact ⟨_, lookM_sl rfl (lookM_sl rfl (lookM_sl rfl lookM_hd)), rfl, by simp [renL, ren]⟩
theorem f97_nil_out (r : Row) (low high : Str) (u : Bool) (d ep : Nat) (h : inS low high u r.key = false) :
    CallE Try.prog 97 (takeArgs r) (takeIn low high u (.dat (.nil 2))) d ep { val := .dat (.bool true), wr := takeIn low high u (.dat (.nil 2)), rd := takeKeys, use := [], nw := [] } := by
  refine CallE_of good mixed (fn := Try.f97) (by kernel_rfl) rfl enter97 (Nat.le_of_ble_eq_true rfl) rfl (by simp) rfl (by simp [ptrInL, ptrIn]) ?_
  simp only [renL, ren, initP, List.map_cons, List.map_nil, finK, takeIn, takeArgs]
  repeat' (first
      | (refine is_cons ?_; first
          | (refine is_g ?_; first | refine rl_on rfl rfl ?_ | refine rl_off rfl rfl ?_ | refine rl_offU rfl ?_ | (refine rl_case rfl ?_ ?_ <;> (intro h; first | subst h | (simp only [Bool.not_eq_true', Bool.not_eq_false'] at h; subst h))))
          | (refine is_ld ?_; first | refine ld_load rfl (by first | rfl | (repeat (first | exact lookM_hd | refine lookM_sl rfl ?_))) rfl (by (try simp only [nfA, Nat.reduceAdd]) <;> exact rfl) ?_ | refine ld_valn rfl (by (try simp only [nfA, Nat.reduceAdd]) <;> exact rfl) ?_)
          | (refine is_fa ?_; first | refine fa_valn rfl (by (try simp only [nfA, Nat.reduceAdd]) <;> exact rfl) ?_)
          | (refine is_as ?_; first | refine as_val rfl ?_ | refine as_new rfl rfl ?_)
          | (refine is_bo ?_; first | refine rl_binT rfl ?_ | refine rl_binF rfl ?_ | (refine rl_binB rfl ?_; intro _ _) | (refine rl_half rfl (by (try simp only [maxLen_eq, List.length_map, decide_eq_true_eq, decide_eq_false_iff_not] at *); omega) ?_) | (refine rl_binW rfl (by (try simp only [maxLen_eq, List.length_map, decide_eq_true_eq, decide_eq_false_iff_not] at *); omega) ?_) | refine bo_val rfl ?_)
          | (refine is_mv ?_; first | refine mv_val rfl ?_)
          | (refine is_pk ?_; first | refine pk_twoT rfl rfl ?_ | refine pk_twoF rfl rfl ?_ | (refine pk_case rfl ?_ ?_ <;> (intro h; subst h)))
          | (refine is_bx ?_; first | refine bx_alloc rfl (by (try simp only [nfA, Nat.reduceAdd]) <;> exact rfl) ?_)
          | (refine is_st ?_; first | refine st_store rfl (by first | rfl | (repeat (first | exact lookM_hd | refine lookM_sl rfl ?_))) rfl (by (try simp only [nfA, Nat.reduceAdd]) <;> exact rfl) ?_)
          | (refine is_bs ?_; first | refine bs_new rfl (by (try simp only [nfA, Nat.reduceAdd]) <;> exact rfl) ?_)
          | (refine is_bi ?_; first | (refine bi_gated rfl (by (try simp only [nfA, Nat.reduceAdd]) <;> exact rfl) ?_; intro _) | refine bi_val rfl ?_ | refine bi_own rfl (by first | rfl | (repeat (first | exact lookB_hd | refine lookB_sl rfl ?_))) ?_ ?_ | refine bi_needN rfl ?_ ?_)
          | (refine is_cf 59 ?_; first | (refine cfB (f59_calls _ _ _ _) rfl ⟨.inl rfl, .inl rfl, .inl rfl, .inl rfl, trivial⟩ ?_; intro _ _) | (refine cfB (f59_calls _ _ _ _) rfl ⟨(by first | exact .inl rfl | exact .inr (.inl rfl) | exact .inr (.inr ⟨_, _, rfl, rfl⟩)), (by first | exact .inl rfl | exact .inr (.inl rfl) | exact .inr (.inr ⟨_, _, rfl, rfl⟩)), (by first | exact .inl rfl | exact .inr (.inl rfl) | exact .inr (.inr ⟨_, _, rfl, rfl⟩)), (by first | exact .inl rfl | exact .inr (.inl rfl) | exact .inr (.inr ⟨_, _, rfl, rfl⟩)), trivial⟩ ?_; intro _ _)))
      | refine rl_nil ?_
      | (refine is_aw ?_; first
          | refine aw_seq ?_
          | refine aw_scope ?_
          | refine aw_reg rfl ?_
          | refine aw_draw rfl ?_
          | refine aw_condT rfl ?_
          | refine aw_condF rfl ?_
          | (refine aw_condN rfl ?_ ?_ <;> (intro h; subst h))
          | (refine aw_cond rfl ?_ ?_ <;> (intro h; subst h))
          | refine aw_skip ?_
          | refine aw_ret ?_
          | refine aw_exit ?_
          | refine aw_block ?_
          | refine aw_label ?_)
      | refine tq_n ?_
      | refine ng_n ?_
      | refine ng_r ?_
      | refine ng_x ?_
      | refine ⟨(rfl : regOk _ _ = true), ?_⟩
      | refine tq_r ?_
      | refine tq_x ?_
      | refine bq_n ?_
      | refine bq_x ?_
      | refine bq_r ?_
      | refine bq_o rfl ?_
      | refine fq_r rfl ?_
      | refine fq_n rfl ?_)
  · simp_all
  · simp_all
  · refine eq_r ⟨rfl, [], rfl, by simp, by simp, ?_⟩
    · intro p hp
      simp only [List.mem_cons, List.not_mem_nil, or_false] at hp
      rcases hp with rfl | rfl | rfl
      · exact ⟨_, lookM_sl rfl lookM_hd, rfl, by simp [renL, ren]⟩
      · exact ⟨_, lookM_sl rfl (lookM_sl rfl lookM_hd), rfl, by simp [renL, ren, fout, er]⟩
      · exact ⟨_, lookM_sl rfl (lookM_sl rfl (lookM_sl rfl lookM_hd)), rfl, by simp [renL, ren]⟩
/-- What is kept so far: nil, or a row of its own. -/
def takeBox (o : Option Nat) (out : List Row) : PV := match o with | none => .dat (.nil 2) | some t => .acc (31, 0, t) 2 (ers out)
theorem filter_succ {α : Type} {l : List α} {n : Nat} {x : α} (p : α → Bool) (h : l[n]? = some x) : (l.take (n + 1)).filter p = (l.take n).filter p ++ (if p x then [x] else []) := by
  rw [List.take_add_one, h, List.filter_append]
  simp only [Option.toList_some, List.filter_cons, List.filter_nil]
abbrev takeS (l : List Row) (low high : Str) (u : Bool) (x : Nat × Option Nat) (e : Nat) : LSt :=
  ⟨[(16, .dat (I x.1)), (15, .dat (I l.length)), (10, .clo 97 [.ptr (5, 0, 1) 0, .ptr (9, 0, 2) 0, .ptr (6, 0, 1) 0]), (9, .ptr (9, 0, 2) 0), (0, .dat (.lst 2 (ers l))), (3, .dat (.bool false))],
   [((9, 0, 2), [takeBox x.2 ((l.take x.1).filter fun r => inS low high u r.key)]), ((6, 0, 1), [.dat (I 0)]), ((5, 0, 1), [.dat (.str low), .dat (.str high), .dat (.bool u)])],
   (match x.2 with | none => [] | some t => [((31, 0, t), true)]), e⟩
theorem enter83 : EnterOk Try.prog 83 := EnterOk_of (fn := Try.f83) (by kernel_rfl) (by kernel_rfl) (by kernel_rfl)
theorem f83_calls (l : List Row) (low high : Str) (u : Bool) (hs : l.length ≤ 1000000) : CallsD Try.prog 83 [.lst 2 (ers l), .agg [.str low, .str high, .bool u], I 0, .bool false] (.lst 2 (ers (l.filter fun r => inS low high u r.key))) := by
  refine CallsD_bd enter83 fun hbd => CallsD_of good mixed (fn := Try.f83) (by kernel_rfl) rfl enter83 (Nat.le_of_ble_eq_true rfl) ?_
  show AWp _ _ _ _ _ ⟨[(0, _), (1, _), (2, _), (3, _)], [], [], 0⟩
  repeat' (first
      | (refine is_cons ?_; first
          | (refine is_mv ?_; first | refine mv_val rfl ?_)
          | (refine is_as ?_; first | refine as_val rfl ?_ | refine as_new rfl rfl ?_)
          | (refine is_bo ?_; first | refine rl_binT rfl ?_ | refine rl_binF rfl ?_ | (refine rl_binB rfl ?_; intro _ _) | (refine rl_half rfl (by (try simp only [maxLen_eq, List.length_map, decide_eq_true_eq, decide_eq_false_iff_not] at *); omega) ?_) | (refine rl_binW rfl (by (try simp only [maxLen_eq, List.length_map, decide_eq_true_eq, decide_eq_false_iff_not] at *); omega) ?_) | refine bo_val rfl ?_)
          | (refine is_ld ?_; first | refine ld_load rfl (by first | rfl | (repeat (first | exact lookM_hd | refine lookM_sl rfl ?_))) rfl (by (try simp only [nfA, Nat.reduceAdd]) <;> exact rfl) ?_ | refine ld_valn rfl (by (try simp only [nfA, Nat.reduceAdd]) <;> exact rfl) ?_)
          | (refine is_bx ?_; first | refine bx_alloc rfl (by (try simp only [nfA, Nat.reduceAdd]) <;> exact rfl) ?_)
          | (refine is_al ?_; first | refine al_alloc rfl (by (try simp only [nfA, Nat.reduceAdd]) <;> exact rfl) ?_)
          | (refine is_uo ?_; first | refine uo_val rfl ?_)
          | (refine is_ia ?_; first | (refine ia_elt rfl ?_ (fun _ _ => ?_)))
          | (refine is_mf ?_; first | refine mf_val rfl ?_)
          | (refine is_bi ?_; first | (refine bi_gated rfl (by (try simp only [nfA, Nat.reduceAdd]) <;> exact rfl) ?_; intro _) | refine bi_val rfl ?_ | refine bi_own rfl (by first | rfl | (repeat (first | exact lookB_hd | refine lookB_sl rfl ?_))) ?_ ?_ | refine bi_needN rfl ?_ ?_))
      | refine rl_nil ?_
      | (refine is_aw ?_; first
          | refine aw_seq ?_
          | refine aw_scope ?_
          | refine aw_reg rfl ?_
          | refine aw_draw rfl ?_
          | refine aw_condT rfl ?_
          | refine aw_condF rfl ?_
          | (refine aw_condN rfl ?_ ?_ <;> (intro h; subst h))
          | (refine aw_cond rfl ?_ ?_ <;> (intro h; subst h))
          | refine aw_skip ?_
          | refine aw_ret ?_
          | refine aw_exit ?_
          | refine aw_block ?_
          | refine aw_label ?_)
      | refine tq_n ?_
      | refine ng_n ?_
      | refine ng_r ?_
      | refine ng_x ?_
      | refine ⟨(rfl : regOk _ _ = true), ?_⟩
      | refine tq_r ?_
      | refine tq_x ?_
      | refine bq_n ?_
      | refine bq_x ?_
      | refine bq_r ?_
      | refine bq_o rfl ?_
      | refine fq_r rfl ?_
      | refine fq_n rfl ?_)
  refine aw_loopX (takeS l low high u) (fun x => x.1 ≤ l.length ∧ (x.2 = none → (l.take x.1).filter (fun r => inS low high u r.key) = [])) (fun x => l.length - x.1) (0, none) _ (le_of ⟨rfl, rfl, rfl, rfl, rfl, rfl, trivial⟩ ⟨rfl, rfl, rfl, trivial⟩ trivial (Nat.le_refl _)) (by simp) ?_
  rintro ⟨n, o⟩ e ⟨hn, ho⟩
  have hfl : ((l.take n).filter fun r => inS low high u r.key).length ≤ 1000000 := by
    have h1 := List.length_filter_le (fun r : Row => inS low high u r.key) (l.take n)
    have h2 := List.length_take_le n l
    omega
  dsimp only at hn ho ⊢
  cases o with
  | none =>
    replace ho := ho rfl
    try dsimp only [takeBox]
    repeat' (first
        | (refine is_cons ?_; first
            | (refine is_mv ?_; first | refine mv_val rfl ?_)
            | (refine is_as ?_; first | refine as_val rfl ?_ | refine as_new rfl rfl ?_)
            | (refine is_bo ?_; first | refine rl_binT rfl ?_ | refine rl_binF rfl ?_ | (refine rl_binB rfl ?_; intro _ _) | (refine rl_half rfl (by (try simp only [maxLen_eq, List.length_map, decide_eq_true_eq, decide_eq_false_iff_not] at *); omega) ?_) | (refine rl_binW rfl (by (try simp only [maxLen_eq, List.length_map, decide_eq_true_eq, decide_eq_false_iff_not] at *); omega) ?_) | refine bo_val rfl ?_)
            | (refine is_ld ?_; first | refine ld_load rfl (by first | rfl | (repeat (first | exact lookM_hd | refine lookM_sl rfl ?_))) rfl (by (try simp only [nfA, Nat.reduceAdd]) <;> exact rfl) ?_ | refine ld_valn rfl (by (try simp only [nfA, Nat.reduceAdd]) <;> exact rfl) ?_)
            | (refine is_bx ?_; first | refine bx_alloc rfl (by (try simp only [nfA, Nat.reduceAdd]) <;> exact rfl) ?_)
            | (refine is_al ?_; first | refine al_alloc rfl (by (try simp only [nfA, Nat.reduceAdd]) <;> exact rfl) ?_)
            | (refine is_uo ?_; first | refine uo_val rfl ?_)
            | (refine is_ia ?_; first | (refine ia_elt rfl ?_ (fun _ _ => ?_)))
            | (refine is_mf ?_; first | refine mf_val rfl ?_)
            | (refine is_bi ?_; first | (refine bi_gated rfl (by (try simp only [nfA, Nat.reduceAdd]) <;> exact rfl) ?_; intro _) | refine bi_val rfl ?_ | refine bi_own rfl (by first | rfl | (repeat (first | exact lookB_hd | refine lookB_sl rfl ?_))) ?_ ?_ | refine bi_needN rfl ?_ ?_))
        | refine rl_nil ?_
        | (refine is_aw ?_; first
            | refine aw_seq ?_
            | refine aw_scope ?_
            | refine aw_reg rfl ?_
            | refine aw_draw rfl ?_
            | refine aw_condT rfl ?_
            | refine aw_condF rfl ?_
            | (refine aw_condN rfl ?_ ?_ <;> (intro h; subst h))
            | (refine aw_cond rfl ?_ ?_ <;> (intro h; subst h))
            | refine aw_skip ?_
            | refine aw_ret ?_
            | refine aw_exit ?_
            | refine aw_block ?_
            | refine aw_label ?_)
        | refine tq_n ?_
        | refine ng_n ?_
        | refine ng_r ?_
        | refine ng_x ?_
        | refine ⟨(rfl : regOk _ _ = true), ?_⟩
        | refine tq_r ?_
        | refine tq_x ?_
        | refine bq_n ?_
        | refine bq_x ?_
        | refine bq_r ?_
        | refine bq_o rfl ?_
        | refine fq_r rfl ?_
        | refine fq_n rfl ?_)
    · simp only [maxLen_eq, List.length_map, decide_eq_true_eq, decide_eq_false_iff_not, Int.toNat_natCast, Bool.not_eq_true', Bool.not_eq_false', Bool.not_eq_true, Bool.not_eq_false] at *; omega
    · rename_i hl x hx
      simp only [maxLen_eq, List.length_map, decide_eq_true_eq, decide_eq_false_iff_not, Int.toNat_natCast, Bool.not_eq_true', Bool.not_eq_false', Bool.not_eq_true, Bool.not_eq_false] at *
      cases hin : inS low high u x.key with
      | true =>
        refine rl_callE (f97_nil_in x low high u _ _ hin) rfl rfl rfl rfl ⟨rfl, rfl, rfl, trivial⟩ trivial ?_
        simp only [appL, Eff.alKeys, Eff.nwKeys, pushM, pushB, Option.getD_some, List.map_nil, List.map_cons, takeIn]
        repeat' (first
            | (refine is_cons ?_; first
                | (refine is_mv ?_; first | refine mv_val rfl ?_)
                | (refine is_as ?_; first | refine as_val rfl ?_ | refine as_new rfl rfl ?_)
                | (refine is_bo ?_; first | refine rl_binT rfl ?_ | refine rl_binF rfl ?_ | (refine rl_binB rfl ?_; intro _ _) | (refine rl_half rfl (by (try simp only [maxLen_eq, List.length_map, decide_eq_true_eq, decide_eq_false_iff_not] at *); omega) ?_) | (refine rl_binW rfl (by (try simp only [maxLen_eq, List.length_map, decide_eq_true_eq, decide_eq_false_iff_not] at *); omega) ?_) | refine bo_val rfl ?_)
                | (refine is_ld ?_; first | refine ld_load rfl (by first | rfl | (repeat (first | exact lookM_hd | refine lookM_sl rfl ?_))) rfl (by (try simp only [nfA, Nat.reduceAdd]) <;> exact rfl) ?_ | refine ld_valn rfl (by (try simp only [nfA, Nat.reduceAdd]) <;> exact rfl) ?_)
                | (refine is_bx ?_; first | refine bx_alloc rfl (by (try simp only [nfA, Nat.reduceAdd]) <;> exact rfl) ?_)
                | (refine is_al ?_; first | refine al_alloc rfl (by (try simp only [nfA, Nat.reduceAdd]) <;> exact rfl) ?_)
                | (refine is_uo ?_; first | refine uo_val rfl ?_)
                | (refine is_ia ?_; first | (refine ia_elt rfl ?_ (fun _ _ => ?_)))
                | (refine is_mf ?_; first | refine mf_val rfl ?_)
                | (refine is_bi ?_; first | (refine bi_gated rfl (by (try simp only [nfA, Nat.reduceAdd]) <;> exact rfl) ?_; intro _) | refine bi_val rfl ?_ | refine bi_own rfl (by first | rfl | (repeat (first | exact lookB_hd | refine lookB_sl rfl ?_))) ?_ ?_ | refine bi_needN rfl ?_ ?_))
            | refine rl_nil ?_
            | (refine is_aw ?_; first
                | refine aw_seq ?_
                | refine aw_scope ?_
                | refine aw_reg rfl ?_
                | refine aw_draw rfl ?_
                | refine aw_condT rfl ?_
                | refine aw_condF rfl ?_
                | (refine aw_condN rfl ?_ ?_ <;> (intro h; subst h))
                | (refine aw_cond rfl ?_ ?_ <;> (intro h; subst h))
                | refine aw_skip ?_
                | refine aw_ret ?_
                | refine aw_exit ?_
                | refine aw_block ?_
                | refine aw_label ?_)
            | refine tq_n ?_
            | refine ng_n ?_
            | refine ng_r ?_
            | refine ng_x ?_
            | refine ⟨(rfl : regOk _ _ = true), ?_⟩
            | refine tq_r ?_
            | refine tq_x ?_
            | refine bq_n ?_
            | refine bq_x ?_
            | refine bq_r ?_
            | refine bq_o rfl ?_
            | refine fq_r rfl ?_
            | refine fq_n rfl ?_)
        exact ⟨(n + 1, some _), _, by dsimp only; omega, le_of ⟨rfl, rfl, rfl, rfl, rfl, rfl, trivial⟩ ⟨by dsimp only [takeBox]; rw [filter_succ _ hx, ho, hin]; exact lookM_sl rfl lookM_hd, rfl, rfl, trivial⟩ ⟨lookB_hd, trivial⟩ (Nat.le_refl _), by dsimp only; omega, by simp⟩
      | false =>
        refine rl_callE (f97_nil_out x low high u _ _ hin) rfl rfl rfl rfl ⟨rfl, rfl, rfl, trivial⟩ trivial ?_
        simp only [appL, Eff.alKeys, Eff.nwKeys, pushM, pushB, Option.getD_some, List.map_nil, List.map_cons, takeIn]
        repeat' (first
            | (refine is_cons ?_; first
                | (refine is_mv ?_; first | refine mv_val rfl ?_)
                | (refine is_as ?_; first | refine as_val rfl ?_ | refine as_new rfl rfl ?_)
                | (refine is_bo ?_; first | refine rl_binT rfl ?_ | refine rl_binF rfl ?_ | (refine rl_binB rfl ?_; intro _ _) | (refine rl_half rfl (by (try simp only [maxLen_eq, List.length_map, decide_eq_true_eq, decide_eq_false_iff_not] at *); omega) ?_) | (refine rl_binW rfl (by (try simp only [maxLen_eq, List.length_map, decide_eq_true_eq, decide_eq_false_iff_not] at *); omega) ?_) | refine bo_val rfl ?_)
                | (refine is_ld ?_; first | refine ld_load rfl (by first | rfl | (repeat (first | exact lookM_hd | refine lookM_sl rfl ?_))) rfl (by (try simp only [nfA, Nat.reduceAdd]) <;> exact rfl) ?_ | refine ld_valn rfl (by (try simp only [nfA, Nat.reduceAdd]) <;> exact rfl) ?_)
                | (refine is_bx ?_; first | refine bx_alloc rfl (by (try simp only [nfA, Nat.reduceAdd]) <;> exact rfl) ?_)
                | (refine is_al ?_; first | refine al_alloc rfl (by (try simp only [nfA, Nat.reduceAdd]) <;> exact rfl) ?_)
                | (refine is_uo ?_; first | refine uo_val rfl ?_)
                | (refine is_ia ?_; first | (refine ia_elt rfl ?_ (fun _ _ => ?_)))
                | (refine is_mf ?_; first | refine mf_val rfl ?_)
                | (refine is_bi ?_; first | (refine bi_gated rfl (by (try simp only [nfA, Nat.reduceAdd]) <;> exact rfl) ?_; intro _) | refine bi_val rfl ?_ | refine bi_own rfl (by first | rfl | (repeat (first | exact lookB_hd | refine lookB_sl rfl ?_))) ?_ ?_ | refine bi_needN rfl ?_ ?_))
            | refine rl_nil ?_
            | (refine is_aw ?_; first
                | refine aw_seq ?_
                | refine aw_scope ?_
                | refine aw_reg rfl ?_
                | refine aw_draw rfl ?_
                | refine aw_condT rfl ?_
                | refine aw_condF rfl ?_
                | (refine aw_condN rfl ?_ ?_ <;> (intro h; subst h))
                | (refine aw_cond rfl ?_ ?_ <;> (intro h; subst h))
                | refine aw_skip ?_
                | refine aw_ret ?_
                | refine aw_exit ?_
                | refine aw_block ?_
                | refine aw_label ?_)
            | refine tq_n ?_
            | refine ng_n ?_
            | refine ng_r ?_
            | refine ng_x ?_
            | refine ⟨(rfl : regOk _ _ = true), ?_⟩
            | refine tq_r ?_
            | refine tq_x ?_
            | refine bq_n ?_
            | refine bq_x ?_
            | refine bq_r ?_
            | refine bq_o rfl ?_
            | refine fq_r rfl ?_
            | refine fq_n rfl ?_)
        exact ⟨(n + 1, none), _, by dsimp only; omega, le_of ⟨rfl, rfl, rfl, rfl, rfl, rfl, trivial⟩ ⟨rfl, rfl, rfl, trivial⟩ trivial (Nat.le_refl _), by dsimp only; omega, by simp [filter_succ _ hx, ho, hin]⟩
    · rename_i hl
      simp only [maxLen_eq, List.length_map, decide_eq_true_eq, decide_eq_false_iff_not, Int.toNat_natCast, Bool.not_eq_true', Bool.not_eq_false', Bool.not_eq_true, Bool.not_eq_false] at *
      have : n = l.length := by omega
      subst this
      rw [List.take_length] at ho
      simp [normD, norm1, ho]
  | some t =>
    try dsimp only [takeBox]
    repeat' (first
        | (refine is_cons ?_; first
            | (refine is_mv ?_; first | refine mv_val rfl ?_)
            | (refine is_as ?_; first | refine as_val rfl ?_ | refine as_new rfl rfl ?_)
            | (refine is_bo ?_; first | refine rl_binT rfl ?_ | refine rl_binF rfl ?_ | (refine rl_binB rfl ?_; intro _ _) | (refine rl_half rfl (by (try simp only [maxLen_eq, List.length_map, decide_eq_true_eq, decide_eq_false_iff_not] at *); omega) ?_) | (refine rl_binW rfl (by (try simp only [maxLen_eq, List.length_map, decide_eq_true_eq, decide_eq_false_iff_not] at *); omega) ?_) | refine bo_val rfl ?_)
            | (refine is_ld ?_; first | refine ld_load rfl (by first | rfl | (repeat (first | exact lookM_hd | refine lookM_sl rfl ?_))) rfl (by (try simp only [nfA, Nat.reduceAdd]) <;> exact rfl) ?_ | refine ld_valn rfl (by (try simp only [nfA, Nat.reduceAdd]) <;> exact rfl) ?_)
            | (refine is_bx ?_; first | refine bx_alloc rfl (by (try simp only [nfA, Nat.reduceAdd]) <;> exact rfl) ?_)
            | (refine is_al ?_; first | refine al_alloc rfl (by (try simp only [nfA, Nat.reduceAdd]) <;> exact rfl) ?_)
            | (refine is_uo ?_; first | refine uo_val rfl ?_)
            | (refine is_ia ?_; first | (refine ia_elt rfl ?_ (fun _ _ => ?_)))
            | (refine is_mf ?_; first | refine mf_val rfl ?_)
            | (refine is_bi ?_; first | (refine bi_gated rfl (by (try simp only [nfA, Nat.reduceAdd]) <;> exact rfl) ?_; intro _) | refine bi_val rfl ?_ | refine bi_own rfl (by first | rfl | (repeat (first | exact lookB_hd | refine lookB_sl rfl ?_))) ?_ ?_ | refine bi_needN rfl ?_ ?_))
        | refine rl_nil ?_
        | (refine is_aw ?_; first
            | refine aw_seq ?_
            | refine aw_scope ?_
            | refine aw_reg rfl ?_
            | refine aw_draw rfl ?_
            | refine aw_condT rfl ?_
            | refine aw_condF rfl ?_
            | (refine aw_condN rfl ?_ ?_ <;> (intro h; subst h))
            | (refine aw_cond rfl ?_ ?_ <;> (intro h; subst h))
            | refine aw_skip ?_
            | refine aw_ret ?_
            | refine aw_exit ?_
            | refine aw_block ?_
            | refine aw_label ?_)
        | refine tq_n ?_
        | refine ng_n ?_
        | refine ng_r ?_
        | refine ng_x ?_
        | refine ⟨(rfl : regOk _ _ = true), ?_⟩
        | refine tq_r ?_
        | refine tq_x ?_
        | refine bq_n ?_
        | refine bq_x ?_
        | refine bq_r ?_
        | refine bq_o rfl ?_
        | refine fq_r rfl ?_
        | refine fq_n rfl ?_)
    · simp only [maxLen_eq, List.length_map, decide_eq_true_eq, decide_eq_false_iff_not, Int.toNat_natCast, Bool.not_eq_true', Bool.not_eq_false', Bool.not_eq_true, Bool.not_eq_false] at *; omega
    · rename_i hl x hx
      simp only [maxLen_eq, List.length_map, decide_eq_true_eq, decide_eq_false_iff_not, Int.toNat_natCast, Bool.not_eq_true', Bool.not_eq_false', Bool.not_eq_true, Bool.not_eq_false] at *
      cases hin : inS low high u x.key with
      | true =>
        refine rl_callE (f97_acc_in x low high u _ _ _ _ hin hfl) rfl rfl rfl rfl ⟨rfl, lookM_hd, rfl, trivial⟩ ⟨lookB_hd, trivial⟩ ?_
        simp only [appL, Eff.alKeys, Eff.nwKeys, pushM, pushB, Option.getD_some, List.map_nil, List.map_cons, takeIn]
        repeat' (first
            | (refine is_cons ?_; first
                | (refine is_mv ?_; first | refine mv_val rfl ?_)
                | (refine is_as ?_; first | refine as_val rfl ?_ | refine as_new rfl rfl ?_)
                | (refine is_bo ?_; first | refine rl_binT rfl ?_ | refine rl_binF rfl ?_ | (refine rl_binB rfl ?_; intro _ _) | (refine rl_half rfl (by (try simp only [maxLen_eq, List.length_map, decide_eq_true_eq, decide_eq_false_iff_not] at *); omega) ?_) | (refine rl_binW rfl (by (try simp only [maxLen_eq, List.length_map, decide_eq_true_eq, decide_eq_false_iff_not] at *); omega) ?_) | refine bo_val rfl ?_)
                | (refine is_ld ?_; first | refine ld_load rfl (by first | rfl | (repeat (first | exact lookM_hd | refine lookM_sl rfl ?_))) rfl (by (try simp only [nfA, Nat.reduceAdd]) <;> exact rfl) ?_ | refine ld_valn rfl (by (try simp only [nfA, Nat.reduceAdd]) <;> exact rfl) ?_)
                | (refine is_bx ?_; first | refine bx_alloc rfl (by (try simp only [nfA, Nat.reduceAdd]) <;> exact rfl) ?_)
                | (refine is_al ?_; first | refine al_alloc rfl (by (try simp only [nfA, Nat.reduceAdd]) <;> exact rfl) ?_)
                | (refine is_uo ?_; first | refine uo_val rfl ?_)
                | (refine is_ia ?_; first | (refine ia_elt rfl ?_ (fun _ _ => ?_)))
                | (refine is_mf ?_; first | refine mf_val rfl ?_)
                | (refine is_bi ?_; first | (refine bi_gated rfl (by (try simp only [nfA, Nat.reduceAdd]) <;> exact rfl) ?_; intro _) | refine bi_val rfl ?_ | refine bi_own rfl (by first | rfl | (repeat (first | exact lookB_hd | refine lookB_sl rfl ?_))) ?_ ?_ | refine bi_needN rfl ?_ ?_))
            | refine rl_nil ?_
            | (refine is_aw ?_; first
                | refine aw_seq ?_
                | refine aw_scope ?_
                | refine aw_reg rfl ?_
                | refine aw_draw rfl ?_
                | refine aw_condT rfl ?_
                | refine aw_condF rfl ?_
                | (refine aw_condN rfl ?_ ?_ <;> (intro h; subst h))
                | (refine aw_cond rfl ?_ ?_ <;> (intro h; subst h))
                | refine aw_skip ?_
                | refine aw_ret ?_
                | refine aw_exit ?_
                | refine aw_block ?_
                | refine aw_label ?_)
            | refine tq_n ?_
            | refine ng_n ?_
            | refine ng_r ?_
            | refine ng_x ?_
            | refine ⟨(rfl : regOk _ _ = true), ?_⟩
            | refine tq_r ?_
            | refine tq_x ?_
            | refine bq_n ?_
            | refine bq_x ?_
            | refine bq_r ?_
            | refine bq_o rfl ?_
            | refine fq_r rfl ?_
            | refine fq_n rfl ?_)
        exact ⟨(n + 1, some _), _, by dsimp only; omega, le_of ⟨rfl, rfl, rfl, rfl, rfl, rfl, trivial⟩ ⟨by dsimp only [takeBox]; rw [filter_succ _ hx, hin]; exact lookM_sl rfl lookM_hd, rfl, rfl, trivial⟩ ⟨lookB_hd, trivial⟩ (Nat.le_refl _), by dsimp only; omega, by simp⟩
      | false =>
        refine rl_callE (f97_acc_out x low high u _ _ _ _ hin) rfl rfl rfl rfl ⟨rfl, lookM_hd, rfl, trivial⟩ ⟨lookB_hd, trivial⟩ ?_
        simp only [appL, Eff.alKeys, Eff.nwKeys, pushM, pushB, Option.getD_some, List.map_nil, List.map_cons, takeIn]
        repeat' (first
            | (refine is_cons ?_; first
                | (refine is_mv ?_; first | refine mv_val rfl ?_)
                | (refine is_as ?_; first | refine as_val rfl ?_ | refine as_new rfl rfl ?_)
                | (refine is_bo ?_; first | refine rl_binT rfl ?_ | refine rl_binF rfl ?_ | (refine rl_binB rfl ?_; intro _ _) | (refine rl_half rfl (by (try simp only [maxLen_eq, List.length_map, decide_eq_true_eq, decide_eq_false_iff_not] at *); omega) ?_) | (refine rl_binW rfl (by (try simp only [maxLen_eq, List.length_map, decide_eq_true_eq, decide_eq_false_iff_not] at *); omega) ?_) | refine bo_val rfl ?_)
                | (refine is_ld ?_; first | refine ld_load rfl (by first | rfl | (repeat (first | exact lookM_hd | refine lookM_sl rfl ?_))) rfl (by (try simp only [nfA, Nat.reduceAdd]) <;> exact rfl) ?_ | refine ld_valn rfl (by (try simp only [nfA, Nat.reduceAdd]) <;> exact rfl) ?_)
                | (refine is_bx ?_; first | refine bx_alloc rfl (by (try simp only [nfA, Nat.reduceAdd]) <;> exact rfl) ?_)
                | (refine is_al ?_; first | refine al_alloc rfl (by (try simp only [nfA, Nat.reduceAdd]) <;> exact rfl) ?_)
                | (refine is_uo ?_; first | refine uo_val rfl ?_)
                | (refine is_ia ?_; first | (refine ia_elt rfl ?_ (fun _ _ => ?_)))
                | (refine is_mf ?_; first | refine mf_val rfl ?_)
                | (refine is_bi ?_; first | (refine bi_gated rfl (by (try simp only [nfA, Nat.reduceAdd]) <;> exact rfl) ?_; intro _) | refine bi_val rfl ?_ | refine bi_own rfl (by first | rfl | (repeat (first | exact lookB_hd | refine lookB_sl rfl ?_))) ?_ ?_ | refine bi_needN rfl ?_ ?_))
            | refine rl_nil ?_
            | (refine is_aw ?_; first
                | refine aw_seq ?_
                | refine aw_scope ?_
                | refine aw_reg rfl ?_
                | refine aw_draw rfl ?_
                | refine aw_condT rfl ?_
                | refine aw_condF rfl ?_
                | (refine aw_condN rfl ?_ ?_ <;> (intro h; subst h))
                | (refine aw_cond rfl ?_ ?_ <;> (intro h; subst h))
                | refine aw_skip ?_
                | refine aw_ret ?_
                | refine aw_exit ?_
                | refine aw_block ?_
                | refine aw_label ?_)
            | refine tq_n ?_
            | refine ng_n ?_
            | refine ng_r ?_
            | refine ng_x ?_
            | refine ⟨(rfl : regOk _ _ = true), ?_⟩
            | refine tq_r ?_
            | refine tq_x ?_
            | refine bq_n ?_
            | refine bq_x ?_
            | refine bq_r ?_
            | refine bq_o rfl ?_
            | refine fq_r rfl ?_
            | refine fq_n rfl ?_)
        exact ⟨(n + 1, some _), _, by dsimp only; omega, le_of ⟨rfl, rfl, rfl, rfl, rfl, rfl, trivial⟩ ⟨by dsimp only [takeBox]; rw [filter_succ _ hx, hin]; simp only [Bool.false_eq_true, if_false, List.append_nil]; exact lookM_sl rfl lookM_hd, rfl, rfl, trivial⟩ ⟨lookB_hd, trivial⟩ (Nat.le_refl _), by dsimp only; omega, by simp⟩
    · rename_i hl
      simp only [maxLen_eq, List.length_map, decide_eq_true_eq, decide_eq_false_iff_not, Int.toNat_natCast, Bool.not_eq_true', Bool.not_eq_false', Bool.not_eq_true, Bool.not_eq_false] at *
      have : n = l.length := by omega
      subst this
      simp [normD, norm1]
end Go.Proofs.Ytehhgamkijkjgaa.AM.TT
