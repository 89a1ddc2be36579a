/- Contracts of the functions, by the abstract machine. -/
import Derived.Test.YtehhgamkijkjgaaPfH21
namespace Go.Proofs.Ytehhgamkijkjgaa.AM.TT
open Go Go.Proofs.Ytehhgamkijkjgaa.AM Go.Proofs
set_option linter.unusedSimpArgs false
set_option linter.unusedVariables false
attribute [local irreducible] RunL AWp StepK OpK thenQ blockQ noGotoQ fnQ fnEQ
-- import Mod4
theorem enter5 : EnterOk Try.prog 5 := EnterOk_of (fn := Try.f5) (by kernel_rfl) (by kernel_rfl) (by kernel_rfl)
theorem f5_calls (c : Case) : CallsD Try.prog 5 [.agg (ecase c)] (.bool true) := by
  refine CallsD_bd enter5 fun hbd => CallsD_of good mixed (fn := Try.f5) (by kernel_rfl) rfl enter5 (Nat.le_of_ble_eq_true rfl) ?_
  show AWp _ _ _ _ _ ⟨[(0, _)], [], [], 0⟩
  have hc26 := f26_calls c
  cases hf : fewC c with
  | false =>
    rw [hf] at hc26
    obtain ⟨n, ch, ab, so, ke, li, wr⟩ := c
    repeat' (first
        | (refine is_cons ?_; first
            | (refine is_as ?_; first | refine as_val rfl ?_ | refine as_new rfl rfl ?_)
            | (refine is_ld ?_; first | refine ld_load rfl (by first | rfl | (repeat (first | exact lookM_hd | refine lookM_sl rfl ?_))) rfl (by (try simp only [setR, collect, allD, asD, cellsT, List.map_cons, List.map_nil, List.take_succ_cons, List.take_zero, List.take_nil, List.drop_succ_cons, List.drop_zero, List.drop_nil, List.cons_append, List.nil_append, List.append_nil, List.length_cons, List.length_nil, Nat.reduceAdd, Nat.zero_add, Nat.add_zero, Int.toNat_zero, Int.toNat_natCast, List.length_map, ← List.map_take, ← List.map_drop, List.take_length, norm1, er, ee, eh, ef, ec, ev, ei, epg, eab, eli, epl, ecase]) <;> exact rfl) ?_ | refine ld_valn rfl (by (try simp only [setR, collect, allD, asD, cellsT, List.map_cons, List.map_nil, List.take_succ_cons, List.take_zero, List.take_nil, List.drop_succ_cons, List.drop_zero, List.drop_nil, List.cons_append, List.nil_append, List.append_nil, List.length_cons, List.length_nil, Nat.reduceAdd, Nat.zero_add, Nat.add_zero, Int.toNat_zero, Int.toNat_natCast, List.length_map, ← List.map_take, ← List.map_drop, List.take_length, norm1, er, ee, eh, ef, ec, ev, ei, epg, eab, eli, epl, ecase]) <;> exact rfl) ?_)
            | (refine is_bo ?_; first | refine rl_binT rfl ?_ | refine rl_binF rfl ?_ | (refine rl_binB rfl ?_; intro _ _) | (refine rl_half rfl (by (try simp only [maxLen_eq, List.length_map, decide_eq_true_eq, decide_eq_false_iff_not] at *); omega) ?_) | (refine rl_binW rfl (by (try simp only [maxLen_eq, List.length_map, decide_eq_true_eq, decide_eq_false_iff_not] at *); omega) ?_) | refine bo_val rfl ?_)
            | (refine is_ex ?_; first | (refine rl_extB rfl ?_; intro _ _) | refine ex_valn rfl (by (try simp only [setR, collect, allD, asD, cellsT, List.map_cons, List.map_nil, List.take_succ_cons, List.take_zero, List.take_nil, List.drop_succ_cons, List.drop_zero, List.drop_nil, List.cons_append, List.nil_append, List.append_nil, List.length_cons, List.length_nil, Nat.reduceAdd, Nat.zero_add, Nat.add_zero, Int.toNat_zero, Int.toNat_natCast, List.length_map, ← List.map_take, ← List.map_drop, List.take_length, norm1, er, ee, eh, ef, ec, ev, ei, epg, eab, eli, epl, ecase]) <;> exact rfl) ?_)
            | (refine is_mv ?_; first | refine mv_val rfl ?_)
            | (refine is_fa ?_; first | refine fa_valn rfl (by (try simp only [setR, collect, allD, asD, cellsT, List.map_cons, List.map_nil, List.take_succ_cons, List.take_zero, List.take_nil, List.drop_succ_cons, List.drop_zero, List.drop_nil, List.cons_append, List.nil_append, List.append_nil, List.length_cons, List.length_nil, Nat.reduceAdd, Nat.zero_add, Nat.add_zero, Int.toNat_zero, Int.toNat_natCast, List.length_map, ← List.map_take, ← List.map_drop, List.take_length, norm1, er, ee, eh, ef, ec, ev, ei, epg, eab, eli, epl, ecase]) <;> exact rfl) ?_)
            | (refine is_al ?_; first | refine al_alloc rfl (by (try simp only [setR, collect, allD, asD, cellsT, List.map_cons, List.map_nil, List.take_succ_cons, List.take_zero, List.take_nil, List.drop_succ_cons, List.drop_zero, List.drop_nil, List.cons_append, List.nil_append, List.append_nil, List.length_cons, List.length_nil, Nat.reduceAdd, Nat.zero_add, Nat.add_zero, Int.toNat_zero, Int.toNat_natCast, List.length_map, ← List.map_take, ← List.map_drop, List.take_length, norm1, er, ee, eh, ef, ec, ev, ei, epg, eab, eli, epl, ecase]) <;> exact rfl) ?_)
            | (refine is_st ?_; first | refine st_store rfl (by first | rfl | (repeat (first | exact lookM_hd | refine lookM_sl rfl ?_))) rfl (by (try simp only [setR, collect, allD, asD, cellsT, List.map_cons, List.map_nil, List.take_succ_cons, List.take_zero, List.take_nil, List.drop_succ_cons, List.drop_zero, List.drop_nil, List.cons_append, List.nil_append, List.append_nil, List.length_cons, List.length_nil, Nat.reduceAdd, Nat.zero_add, Nat.add_zero, Int.toNat_zero, Int.toNat_natCast, List.length_map, ← List.map_take, ← List.map_drop, List.take_length, norm1, er, ee, eh, ef, ec, ev, ei, epg, eab, eli, epl, ecase]) <;> exact rfl) ?_)
            | (refine is_uo ?_; first | refine uo_val rfl ?_)
            | (refine is_bx ?_; first | refine bx_alloc rfl (by (try simp only [setR, collect, allD, asD, cellsT, List.map_cons, List.map_nil, List.take_succ_cons, List.take_zero, List.take_nil, List.drop_succ_cons, List.drop_zero, List.drop_nil, List.cons_append, List.nil_append, List.append_nil, List.length_cons, List.length_nil, Nat.reduceAdd, Nat.zero_add, Nat.add_zero, Int.toNat_zero, Int.toNat_natCast, List.length_map, ← List.map_take, ← List.map_drop, List.take_length, norm1, er, ee, eh, ef, ec, ev, ei, epg, eab, eli, epl, ecase]) <;> exact rfl) ?_)
            | (refine is_fd ?_; first | refine fd_valn rfl (by (try simp only [setR, collect, allD, asD, cellsT, List.map_cons, List.map_nil, List.take_succ_cons, List.take_zero, List.take_nil, List.drop_succ_cons, List.drop_zero, List.drop_nil, List.cons_append, List.nil_append, List.append_nil, List.length_cons, List.length_nil, Nat.reduceAdd, Nat.zero_add, Nat.add_zero, Int.toNat_zero, Int.toNat_natCast, List.length_map, ← List.map_take, ← List.map_drop, List.take_length, norm1, er, ee, eh, ef, ec, ev, ei, epg, eab, eli, epl, ecase]) <;> exact rfl) ?_)
            | (refine is_cf 26 ?_; refine cf hc26 rfl ⟨.inl rfl, trivial⟩ ?_)
            | (refine is_cf 27 ?_; first | refine cf (f27_calls) rfl trivial ?_ | refine cf (f27_calls) rfl trivial ?_))
        | refine rl_nil ?_
        | (refine is_aw ?_; first
            | refine aw_seq ?_
            | refine aw_scope ?_
            | refine aw_reg rfl ?_
            | refine aw_draw rfl ?_
            | refine aw_condT rfl ?_
            | refine aw_condF rfl ?_
            | (refine aw_condN rfl ?_ ?_ <;> (intro h; subst h))
            | (refine aw_cond rfl ?_ ?_ <;> (intro h; subst h))
            | refine aw_skip ?_
            | refine aw_ret ?_
            | refine aw_exit ?_
            | refine aw_block ?_
            | refine aw_label ?_)
        | refine tq_n ?_
        | refine ng_n ?_
        | refine ng_r ?_
        | refine ng_x ?_
        | refine ⟨(rfl : regOk _ _ = true), ?_⟩
        | refine tq_r ?_
        | refine tq_x ?_
        | refine bq_n ?_
        | refine bq_x ?_
        | refine bq_r ?_
        | refine bq_o rfl ?_
        | refine fq_r rfl ?_
        | refine fq_n rfl ?_)
    all_goals rfl
  | true =>
    rw [hf] at hc26
    have hc28 := f28_calls c hf
    cases hp : madeP c with
    | error e =>
      simp only [encM, hp] at hc28
      obtain ⟨n, ch, ab, so, ke, li, wr⟩ := c
      repeat' (first
          | (refine is_cons ?_; first
              | (refine is_as ?_; first | refine as_val rfl ?_ | refine as_new rfl rfl ?_)
              | (refine is_ld ?_; first | refine ld_load rfl (by first | rfl | (repeat (first | exact lookM_hd | refine lookM_sl rfl ?_))) rfl (by (try simp only [setR, collect, allD, asD, cellsT, List.map_cons, List.map_nil, List.take_succ_cons, List.take_zero, List.take_nil, List.drop_succ_cons, List.drop_zero, List.drop_nil, List.cons_append, List.nil_append, List.append_nil, List.length_cons, List.length_nil, Nat.reduceAdd, Nat.zero_add, Nat.add_zero, Int.toNat_zero, Int.toNat_natCast, List.length_map, ← List.map_take, ← List.map_drop, List.take_length, norm1, er, ee, eh, ef, ec, ev, ei, epg, eab, eli, epl, ecase]) <;> exact rfl) ?_ | refine ld_valn rfl (by (try simp only [setR, collect, allD, asD, cellsT, List.map_cons, List.map_nil, List.take_succ_cons, List.take_zero, List.take_nil, List.drop_succ_cons, List.drop_zero, List.drop_nil, List.cons_append, List.nil_append, List.append_nil, List.length_cons, List.length_nil, Nat.reduceAdd, Nat.zero_add, Nat.add_zero, Int.toNat_zero, Int.toNat_natCast, List.length_map, ← List.map_take, ← List.map_drop, List.take_length, norm1, er, ee, eh, ef, ec, ev, ei, epg, eab, eli, epl, ecase]) <;> exact rfl) ?_)
              | (refine is_bo ?_; first | refine rl_binT rfl ?_ | refine rl_binF rfl ?_ | (refine rl_binB rfl ?_; intro _ _) | (refine rl_half rfl (by (try simp only [maxLen_eq, List.length_map, decide_eq_true_eq, decide_eq_false_iff_not] at *); omega) ?_) | (refine rl_binW rfl (by (try simp only [maxLen_eq, List.length_map, decide_eq_true_eq, decide_eq_false_iff_not] at *); omega) ?_) | refine bo_val rfl ?_)
              | (refine is_ex ?_; first | (refine rl_extB rfl ?_; intro _ _) | refine ex_valn rfl (by (try simp only [setR, collect, allD, asD, cellsT, List.map_cons, List.map_nil, List.take_succ_cons, List.take_zero, List.take_nil, List.drop_succ_cons, List.drop_zero, List.drop_nil, List.cons_append, List.nil_append, List.append_nil, List.length_cons, List.length_nil, Nat.reduceAdd, Nat.zero_add, Nat.add_zero, Int.toNat_zero, Int.toNat_natCast, List.length_map, ← List.map_take, ← List.map_drop, List.take_length, norm1, er, ee, eh, ef, ec, ev, ei, epg, eab, eli, epl, ecase]) <;> exact rfl) ?_)
              | (refine is_mv ?_; first | refine mv_val rfl ?_)
              | (refine is_fa ?_; first | refine fa_valn rfl (by (try simp only [setR, collect, allD, asD, cellsT, List.map_cons, List.map_nil, List.take_succ_cons, List.take_zero, List.take_nil, List.drop_succ_cons, List.drop_zero, List.drop_nil, List.cons_append, List.nil_append, List.append_nil, List.length_cons, List.length_nil, Nat.reduceAdd, Nat.zero_add, Nat.add_zero, Int.toNat_zero, Int.toNat_natCast, List.length_map, ← List.map_take, ← List.map_drop, List.take_length, norm1, er, ee, eh, ef, ec, ev, ei, epg, eab, eli, epl, ecase]) <;> exact rfl) ?_)
              | (refine is_al ?_; first | refine al_alloc rfl (by (try simp only [setR, collect, allD, asD, cellsT, List.map_cons, List.map_nil, List.take_succ_cons, List.take_zero, List.take_nil, List.drop_succ_cons, List.drop_zero, List.drop_nil, List.cons_append, List.nil_append, List.append_nil, List.length_cons, List.length_nil, Nat.reduceAdd, Nat.zero_add, Nat.add_zero, Int.toNat_zero, Int.toNat_natCast, List.length_map, ← List.map_take, ← List.map_drop, List.take_length, norm1, er, ee, eh, ef, ec, ev, ei, epg, eab, eli, epl, ecase]) <;> exact rfl) ?_)
              | (refine is_st ?_; first | refine st_store rfl (by first | rfl | (repeat (first | exact lookM_hd | refine lookM_sl rfl ?_))) rfl (by (try simp only [setR, collect, allD, asD, cellsT, List.map_cons, List.map_nil, List.take_succ_cons, List.take_zero, List.take_nil, List.drop_succ_cons, List.drop_zero, List.drop_nil, List.cons_append, List.nil_append, List.append_nil, List.length_cons, List.length_nil, Nat.reduceAdd, Nat.zero_add, Nat.add_zero, Int.toNat_zero, Int.toNat_natCast, List.length_map, ← List.map_take, ← List.map_drop, List.take_length, norm1, er, ee, eh, ef, ec, ev, ei, epg, eab, eli, epl, ecase]) <;> exact rfl) ?_)
              | (refine is_uo ?_; first | refine uo_val rfl ?_)
              | (refine is_bx ?_; first | refine bx_alloc rfl (by (try simp only [setR, collect, allD, asD, cellsT, List.map_cons, List.map_nil, List.take_succ_cons, List.take_zero, List.take_nil, List.drop_succ_cons, List.drop_zero, List.drop_nil, List.cons_append, List.nil_append, List.append_nil, List.length_cons, List.length_nil, Nat.reduceAdd, Nat.zero_add, Nat.add_zero, Int.toNat_zero, Int.toNat_natCast, List.length_map, ← List.map_take, ← List.map_drop, List.take_length, norm1, er, ee, eh, ef, ec, ev, ei, epg, eab, eli, epl, ecase]) <;> exact rfl) ?_)
              | (refine is_fd ?_; first | refine fd_valn rfl (by (try simp only [setR, collect, allD, asD, cellsT, List.map_cons, List.map_nil, List.take_succ_cons, List.take_zero, List.take_nil, List.drop_succ_cons, List.drop_zero, List.drop_nil, List.cons_append, List.nil_append, List.append_nil, List.length_cons, List.length_nil, Nat.reduceAdd, Nat.zero_add, Nat.add_zero, Int.toNat_zero, Int.toNat_natCast, List.length_map, ← List.map_take, ← List.map_drop, List.take_length, norm1, er, ee, eh, ef, ec, ev, ei, epg, eab, eli, epl, ecase]) <;> exact rfl) ?_)
              | (refine is_cf 26 ?_; refine cf hc26 rfl ⟨.inl rfl, trivial⟩ ?_)
              | (refine is_cf 27 ?_; first | refine cf (f27_calls) rfl trivial ?_ | refine cf (f27_calls) rfl trivial ?_)
              | (refine is_cf 28 ?_; refine cf hc28 rfl ⟨.inl rfl, trivial⟩ ?_))
          | refine rl_nil ?_
          | (refine is_aw ?_; first
              | refine aw_seq ?_
              | refine aw_scope ?_
              | refine aw_reg rfl ?_
              | refine aw_draw rfl ?_
              | refine aw_condT rfl ?_
              | refine aw_condF rfl ?_
              | (refine aw_condN rfl ?_ ?_ <;> (intro h; subst h))
              | (refine aw_cond rfl ?_ ?_ <;> (intro h; subst h))
              | refine aw_skip ?_
              | refine aw_ret ?_
              | refine aw_exit ?_
              | refine aw_block ?_
              | refine aw_label ?_)
          | refine tq_n ?_
          | refine ng_n ?_
          | refine ng_r ?_
          | refine ng_x ?_
          | refine ⟨(rfl : regOk _ _ = true), ?_⟩
          | refine tq_r ?_
          | refine tq_x ?_
          | refine bq_n ?_
          | refine bq_x ?_
          | refine bq_r ?_
          | refine bq_o rfl ?_
          | refine fq_r rfl ?_
          | refine fq_n rfl ?_)
      all_goals first
        | contradiction
        | rfl
    | ok p =>
      have hl := madeP_len hf hp
      simp only [encM, hp] at hc28
      have hc30 := f30_calls_all p (madeA c) c.key c.limits false hl.1 hl.2
      have hk := reads_kind p (madeA c) c.key c.limits
      obtain ⟨n, ch, ab, so, ke, li, wr⟩ := c
      simp only at hc30 hk
      repeat' (first
          | (refine is_cons ?_; first
              | (refine is_as ?_; first | refine as_val rfl ?_ | refine as_new rfl rfl ?_)
              | (refine is_ld ?_; first | refine ld_load rfl (by first | rfl | (repeat (first | exact lookM_hd | refine lookM_sl rfl ?_))) rfl (by (try simp only [setR, collect, allD, asD, cellsT, List.map_cons, List.map_nil, List.take_succ_cons, List.take_zero, List.take_nil, List.drop_succ_cons, List.drop_zero, List.drop_nil, List.cons_append, List.nil_append, List.append_nil, List.length_cons, List.length_nil, Nat.reduceAdd, Nat.zero_add, Nat.add_zero, Int.toNat_zero, Int.toNat_natCast, List.length_map, ← List.map_take, ← List.map_drop, List.take_length, norm1, er, ee, eh, ef, ec, ev, ei, epg, eab, eli, epl, ecase]) <;> exact rfl) ?_ | refine ld_valn rfl (by (try simp only [setR, collect, allD, asD, cellsT, List.map_cons, List.map_nil, List.take_succ_cons, List.take_zero, List.take_nil, List.drop_succ_cons, List.drop_zero, List.drop_nil, List.cons_append, List.nil_append, List.append_nil, List.length_cons, List.length_nil, Nat.reduceAdd, Nat.zero_add, Nat.add_zero, Int.toNat_zero, Int.toNat_natCast, List.length_map, ← List.map_take, ← List.map_drop, List.take_length, norm1, er, ee, eh, ef, ec, ev, ei, epg, eab, eli, epl, ecase]) <;> exact rfl) ?_)
              | (refine is_bo ?_; first | refine rl_binT rfl ?_ | refine rl_binF rfl ?_ | (refine rl_binB rfl ?_; intro _ _) | (refine rl_half rfl (by (try simp only [maxLen_eq, List.length_map, decide_eq_true_eq, decide_eq_false_iff_not] at *); omega) ?_) | (refine rl_binW rfl (by (try simp only [maxLen_eq, List.length_map, decide_eq_true_eq, decide_eq_false_iff_not] at *); omega) ?_) | refine bo_val rfl ?_)
              | (refine is_ex ?_; first | (refine rl_extB rfl ?_; intro _ _) | refine ex_valn rfl (by (try simp only [setR, collect, allD, asD, cellsT, List.map_cons, List.map_nil, List.take_succ_cons, List.take_zero, List.take_nil, List.drop_succ_cons, List.drop_zero, List.drop_nil, List.cons_append, List.nil_append, List.append_nil, List.length_cons, List.length_nil, Nat.reduceAdd, Nat.zero_add, Nat.add_zero, Int.toNat_zero, Int.toNat_natCast, List.length_map, ← List.map_take, ← List.map_drop, List.take_length, norm1, er, ee, eh, ef, ec, ev, ei, epg, eab, eli, epl, ecase]) <;> exact rfl) ?_)
              | (refine is_mv ?_; first | refine mv_val rfl ?_)
              | (refine is_fa ?_; first | refine fa_valn rfl (by (try simp only [setR, collect, allD, asD, cellsT, List.map_cons, List.map_nil, List.take_succ_cons, List.take_zero, List.take_nil, List.drop_succ_cons, List.drop_zero, List.drop_nil, List.cons_append, List.nil_append, List.append_nil, List.length_cons, List.length_nil, Nat.reduceAdd, Nat.zero_add, Nat.add_zero, Int.toNat_zero, Int.toNat_natCast, List.length_map, ← List.map_take, ← List.map_drop, List.take_length, norm1, er, ee, eh, ef, ec, ev, ei, epg, eab, eli, epl, ecase]) <;> exact rfl) ?_)
              | (refine is_al ?_; first | refine al_alloc rfl (by (try simp only [setR, collect, allD, asD, cellsT, List.map_cons, List.map_nil, List.take_succ_cons, List.take_zero, List.take_nil, List.drop_succ_cons, List.drop_zero, List.drop_nil, List.cons_append, List.nil_append, List.append_nil, List.length_cons, List.length_nil, Nat.reduceAdd, Nat.zero_add, Nat.add_zero, Int.toNat_zero, Int.toNat_natCast, List.length_map, ← List.map_take, ← List.map_drop, List.take_length, norm1, er, ee, eh, ef, ec, ev, ei, epg, eab, eli, epl, ecase]) <;> exact rfl) ?_)
              | (refine is_st ?_; first | refine st_store rfl (by first | rfl | (repeat (first | exact lookM_hd | refine lookM_sl rfl ?_))) rfl (by (try simp only [setR, collect, allD, asD, cellsT, List.map_cons, List.map_nil, List.take_succ_cons, List.take_zero, List.take_nil, List.drop_succ_cons, List.drop_zero, List.drop_nil, List.cons_append, List.nil_append, List.append_nil, List.length_cons, List.length_nil, Nat.reduceAdd, Nat.zero_add, Nat.add_zero, Int.toNat_zero, Int.toNat_natCast, List.length_map, ← List.map_take, ← List.map_drop, List.take_length, norm1, er, ee, eh, ef, ec, ev, ei, epg, eab, eli, epl, ecase]) <;> exact rfl) ?_)
              | (refine is_uo ?_; first | refine uo_val rfl ?_)
              | (refine is_bx ?_; first | refine bx_alloc rfl (by (try simp only [setR, collect, allD, asD, cellsT, List.map_cons, List.map_nil, List.take_succ_cons, List.take_zero, List.take_nil, List.drop_succ_cons, List.drop_zero, List.drop_nil, List.cons_append, List.nil_append, List.append_nil, List.length_cons, List.length_nil, Nat.reduceAdd, Nat.zero_add, Nat.add_zero, Int.toNat_zero, Int.toNat_natCast, List.length_map, ← List.map_take, ← List.map_drop, List.take_length, norm1, er, ee, eh, ef, ec, ev, ei, epg, eab, eli, epl, ecase]) <;> exact rfl) ?_)
              | (refine is_fd ?_; first | refine fd_valn rfl (by (try simp only [setR, collect, allD, asD, cellsT, List.map_cons, List.map_nil, List.take_succ_cons, List.take_zero, List.take_nil, List.drop_succ_cons, List.drop_zero, List.drop_nil, List.cons_append, List.nil_append, List.append_nil, List.length_cons, List.length_nil, Nat.reduceAdd, Nat.zero_add, Nat.add_zero, Int.toNat_zero, Int.toNat_natCast, List.length_map, ← List.map_take, ← List.map_drop, List.take_length, norm1, er, ee, eh, ef, ec, ev, ei, epg, eab, eli, epl, ecase]) <;> exact rfl) ?_)
              | (refine is_cf 26 ?_; refine cf hc26 rfl ⟨.inl rfl, trivial⟩ ?_)
              | (refine is_cf 27 ?_; first | refine cf (f27_calls) rfl trivial ?_ | refine cf (f27_calls) rfl trivial ?_)
              | (refine is_cf 28 ?_; refine cf hc28 rfl ⟨.inl rfl, trivial⟩ ?_)
              | (refine is_cf 30 ?_; refine cf hc30 rfl ⟨.inl rfl, .inl rfl, .inl rfl, .inl rfl, .inl rfl, trivial⟩ ?_))
          | refine rl_nil ?_
          | (refine is_aw ?_; first
              | refine aw_seq ?_
              | refine aw_scope ?_
              | refine aw_reg rfl ?_
              | refine aw_draw rfl ?_
              | refine aw_condT rfl ?_
              | refine aw_condF rfl ?_
              | (refine aw_condN rfl ?_ ?_ <;> (intro h; subst h))
              | (refine aw_cond rfl ?_ ?_ <;> (intro h; subst h))
              | refine aw_skip ?_
              | refine aw_ret ?_
              | refine aw_exit ?_
              | refine aw_block ?_
              | refine aw_label ?_)
          | refine tq_n ?_
          | refine ng_n ?_
          | refine ng_r ?_
          | refine ng_x ?_
          | refine ⟨(rfl : regOk _ _ = true), ?_⟩
          | refine tq_r ?_
          | refine tq_x ?_
          | refine bq_n ?_
          | refine bq_x ?_
          | refine bq_r ?_
          | refine bq_o rfl ?_
          | refine fq_r rfl ?_
          | refine fq_n rfl ?_)
      all_goals first
        | contradiction
        | rfl
        | (exfalso; simp only [decide_eq_true_eq, decide_eq_false_iff_not] at *; omega)
end Go.Proofs.Ytehhgamkijkjgaa.AM.TT
