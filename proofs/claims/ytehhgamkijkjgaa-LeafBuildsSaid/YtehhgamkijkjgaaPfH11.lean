/- Contracts of the functions, by the abstract machine. -/
import Derived.Test.YtehhgamkijkjgaaPfH10
namespace Go.Proofs.Ytehhgamkijkjgaa.AM.TT
open Go Go.Proofs.Ytehhgamkijkjgaa.AM Go.Proofs
set_option linter.unusedSimpArgs false
set_option linter.unusedVariables false
attribute [local irreducible] RunL AWp StepK OpK thenQ blockQ noGotoQ fnQ fnEQ
def b0 : Rec := ⟨1, [], [], true, 0, [⟨[97], []⟩, ⟨[98], []⟩, ⟨[99], []⟩], [], [], [], 0, noHold, noRef⟩
def p0 : Page := ⟨3, ⟨1, 1⟩, [b0], [], true, baseV b0, noIView⟩
def l0 : Limits := ⟨0, 0, 0, 2, 4, 0⟩
theorem fold0 : foldL [b0] = .ok (baseV b0) := by rfl
theorem of0 : CallsD Try.prog 48 [I 3, .agg (ef ⟨1, 1⟩), .lst 15 (ecs [b0]), .lst 2 (efs [])] (.tup [.agg (epg p0), .nilI]) := by
  have := f48_calls_leaf 3 ⟨1, 1⟩ [b0] [] b0 rfl rfl (by decide) (by decide) (by decide)
  rw [fold0] at this
  exact this
theorem dec0 (w : Bool) : CallsD Try.prog 30 [.agg (epg p0), .agg (eab noAbove), .str [97], .agg (eli l0), .bool w] (.agg (epl (plan (if w then 7 else 10)))) := by
  have := f30_calls_leaf p0 noAbove [97] l0 w rfl (by decide) rfl (by decide) (by decide)
  have e : (if p0.rows.gone then plan 3 else if w && (upkA p0 l0).2 then (upkA p0 l0).1 else plan 10) = plan (if w then 7 else 10) := by
    cases w <;> decide
  rw [e] at this
  exact this
theorem enter27 : EnterOk Try.prog 27 := EnterOk_of (fn := Try.f27) (by kernel_rfl) (by kernel_rfl) (by kernel_rfl)
theorem f27_calls  : CallsD Try.prog 27 [] (.bool true) := by
  refine CallsD_bd enter27 fun hbd => CallsD_of good mixed (fn := Try.f27) (by kernel_rfl) rfl enter27 (Nat.le_of_ble_eq_true rfl) ?_
  show AWp _ _ _ _ _ ⟨[], [], [], 0⟩
  repeat' (first
      | (refine is_cons ?_; first
          | (refine is_g ?_; first | refine rl_on rfl rfl ?_ | refine rl_off rfl rfl ?_ | refine rl_offU rfl ?_ | (refine rl_case rfl ?_ ?_ <;> (intro h; first | subst h | (simp only [Bool.not_eq_true', Bool.not_eq_false'] at h; subst h))))
          | (refine is_bd ?_; first | refine bd_valn rfl (by (try simp only [nfA, Nat.reduceAdd]) <;> exact rfl) ?_)
          | (refine is_mv ?_; first | refine mv_val rfl ?_)
          | (refine is_ld ?_; first | refine ld_load rfl (by first | rfl | (repeat (first | exact lookM_hd | refine lookM_sl rfl ?_))) rfl (by (try simp only [nfA, Nat.reduceAdd]) <;> exact rfl) ?_ | refine ld_valn rfl (by (try simp only [nfA, Nat.reduceAdd]) <;> exact rfl) ?_)
          | (refine is_bo ?_; first | refine rl_binT rfl ?_ | refine rl_binF rfl ?_ | (refine rl_binB rfl ?_; intro _ _) | (refine rl_half rfl (by (try simp only [maxLen_eq, List.length_map, decide_eq_true_eq, decide_eq_false_iff_not] at *); omega) ?_) | (refine rl_binW rfl (by (try simp only [maxLen_eq, List.length_map, decide_eq_true_eq, decide_eq_false_iff_not] at *); omega) ?_) | refine bo_val rfl ?_)
          | (refine is_as ?_; first | refine as_val rfl ?_ | refine as_new rfl rfl ?_)
          | (refine is_pk ?_; first | refine pk_twoT rfl rfl ?_ | refine pk_twoF rfl rfl ?_ | (refine pk_case rfl ?_ ?_ <;> (intro h; subst h)))
          | (refine is_al ?_; first | refine al_alloc rfl (by (try simp only [nfA, Nat.reduceAdd]) <;> exact rfl) ?_)
          | (refine is_st ?_; first | refine st_store rfl (by first | rfl | (repeat (first | exact lookM_hd | refine lookM_sl rfl ?_))) rfl (by (try simp only [nfA, Nat.reduceAdd]) <;> exact rfl) ?_)
          | (refine is_ex ?_; first | (refine rl_extB rfl ?_; intro _ _) | refine ex_valn rfl (by (try simp only [nfA, Nat.reduceAdd]) <;> exact rfl) ?_)
          | (refine is_bs ?_; first | refine bs_new rfl (by (try simp only [nfA, Nat.reduceAdd]) <;> exact rfl) ?_)
          | (refine is_fd ?_; first | refine fd_valn rfl (by (try simp only [nfA, Nat.reduceAdd]) <;> exact rfl) ?_)
          | (refine is_cf 48 ?_; refine cf of0 rfl ⟨.inl rfl, .inl rfl, .inl rfl, .inr (.inr ⟨_, _, rfl, rfl⟩), trivial⟩ ?_)
          | (refine is_cf 30 ?_; refine cf (dec0 _) rfl ⟨.inl rfl, .inr (.inl rfl), .inl rfl, .inl rfl, .inl rfl, trivial⟩ ?_)
          | (refine is_cf 37 ?_; first | refine cf (f37_calls _) rfl ⟨.inl rfl, trivial⟩ ?_ | refine cf (f37_calls _) rfl ⟨(by first | exact .inl rfl | exact .inr (.inl rfl) | exact .inr (.inr ⟨_, _, rfl, rfl⟩)), trivial⟩ ?_))
      | refine rl_nil ?_
      | (refine is_aw ?_; first
          | refine aw_seq ?_
          | refine aw_scope ?_
          | refine aw_reg rfl ?_
          | refine aw_draw rfl ?_
          | refine aw_condT rfl ?_
          | refine aw_condF rfl ?_
          | (refine aw_condN rfl ?_ ?_ <;> (intro h; subst h))
          | (refine aw_cond rfl ?_ ?_ <;> (intro h; subst h))
          | refine aw_skip ?_
          | refine aw_ret ?_
          | refine aw_exit ?_
          | refine aw_block ?_
          | refine aw_label ?_)
      | refine tq_n ?_
      | refine ng_n ?_
      | refine ng_r ?_
      | refine ng_x ?_
      | refine ⟨(rfl : regOk _ _ = true), ?_⟩
      | refine tq_r ?_
      | refine tq_x ?_
      | refine bq_n ?_
      | refine bq_x ?_
      | refine bq_r ?_
      | refine bq_o rfl ?_
      | refine fq_r rfl ?_
      | refine fq_n rfl ?_)
  all_goals rfl
theorem enter7 : EnterOk Try.prog 7 := EnterOk_of (fn := Try.f7) (by kernel_rfl) (by kernel_rfl) (by kernel_rfl)
theorem f7_calls (k : Int) : CallsD Try.prog 7 [I k] (.bool true) := by
  refine CallsD_bd enter7 fun hbd => CallsD_of good mixed (fn := Try.f7) (by kernel_rfl) rfl enter7 (Nat.le_of_ble_eq_true rfl) ?_
  show AWp _ _ _ _ _ ⟨[(0, _)], [], [], 0⟩
  have hn : k < 1 ∨ 10 < k → nameP k = [] := by
    intro h
    unfold nameP
    rw [if_neg (by omega), if_neg (by omega), if_neg (by omega), if_neg (by omega), if_neg (by omega), if_neg (by omega), if_neg (by omega), if_neg (by omega), if_neg (by omega), if_neg (by omega)]
  repeat' (first
      | (refine is_cons ?_; first
          | (refine is_g ?_; first | refine rl_on rfl rfl ?_ | refine rl_off rfl rfl ?_ | refine rl_offU rfl ?_ | (refine rl_case rfl ?_ ?_ <;> (intro h; first | subst h | (simp only [Bool.not_eq_true', Bool.not_eq_false'] at h; subst h))))
          | (refine is_mv ?_; first | refine mv_val rfl ?_)
          | (refine is_as ?_; first | refine as_val rfl ?_ | refine as_new rfl rfl ?_)
          | (refine is_pk ?_; first | refine pk_twoT rfl rfl ?_ | refine pk_twoF rfl rfl ?_ | (refine pk_case rfl ?_ ?_ <;> (intro h; subst h)))
          | (refine is_bo ?_; first | refine rl_binT rfl ?_ | refine rl_binF rfl ?_ | (refine rl_binB rfl ?_; intro _ _) | (refine rl_half rfl (by (try simp only [maxLen_eq, List.length_map, decide_eq_true_eq, decide_eq_false_iff_not] at *); omega) ?_) | (refine rl_binW rfl (by (try simp only [maxLen_eq, List.length_map, decide_eq_true_eq, decide_eq_false_iff_not] at *); omega) ?_) | refine bo_val rfl ?_)
          | (refine is_ld ?_; first | refine ld_load rfl (by first | rfl | (repeat (first | exact lookM_hd | refine lookM_sl rfl ?_))) rfl (by (try simp only [nfA, Nat.reduceAdd]) <;> exact rfl) ?_ | refine ld_valn rfl (by (try simp only [nfA, Nat.reduceAdd]) <;> exact rfl) ?_)
          | (refine is_bs ?_; first | refine bs_new rfl (by (try simp only [nfA, Nat.reduceAdd]) <;> exact rfl) ?_)
          | (refine is_ia ?_; first | (refine ia_elt rfl ?_ (fun _ _ => ?_)))
          | (refine is_cf 27 ?_; first | refine cf (f27_calls) rfl trivial ?_ | refine cf (f27_calls) rfl trivial ?_)
          | (refine is_cf 37 ?_; first | refine cf (f37_calls _) rfl ⟨.inl rfl, trivial⟩ ?_ | refine cf (f37_calls _) rfl ⟨(by first | exact .inl rfl | exact .inr (.inl rfl) | exact .inr (.inr ⟨_, _, rfl, rfl⟩)), trivial⟩ ?_))
      | refine rl_nil ?_
      | (refine is_aw ?_; first
          | refine aw_seq ?_
          | refine aw_scope ?_
          | refine aw_reg rfl ?_
          | refine aw_draw rfl ?_
          | refine aw_condT rfl ?_
          | refine aw_condF rfl ?_
          | (refine aw_condN rfl ?_ ?_ <;> (intro h; subst h))
          | (refine aw_cond rfl ?_ ?_ <;> (intro h; subst h))
          | refine aw_skip ?_
          | refine aw_ret ?_
          | refine aw_exit ?_
          | refine aw_block ?_
          | refine aw_label ?_)
      | refine tq_n ?_
      | refine ng_n ?_
      | refine ng_r ?_
      | refine ng_x ?_
      | refine ⟨(rfl : regOk _ _ = true), ?_⟩
      | refine tq_r ?_
      | refine tq_x ?_
      | refine bq_n ?_
      | refine bq_x ?_
      | refine bq_r ?_
      | refine bq_o rfl ?_
      | refine fq_r rfl ?_
      | refine fq_n rfl ?_)
  · rename_i h1 h2
    simp only [decide_eq_true_eq] at h1 h2
    have hk : k = 1 ∨ k = 2 ∨ k = 3 ∨ k = 4 ∨ k = 5 ∨ k = 6 ∨ k = 7 ∨ k = 8 ∨ k = 9 ∨ k = 10 := by omega
    refine ia_elt (L := namesL) (enc := fun s => [.str s]) rfl ?_ (fun x hx => ?_)
    · have : namesL.length = 11 := rfl
      omega
    · have hx : nameP k = x := by
        rcases hk with rfl | rfl | rfl | rfl | rfl | rfl | rfl | rfl | rfl | rfl <;> exact Option.some.inj hx
      subst hx
      repeat' (first
          | (refine is_cons ?_; first
              | (refine is_g ?_; first | refine rl_on rfl rfl ?_ | refine rl_off rfl rfl ?_ | refine rl_offU rfl ?_ | (refine rl_case rfl ?_ ?_ <;> (intro h; first | subst h | (simp only [Bool.not_eq_true', Bool.not_eq_false'] at h; subst h))))
              | (refine is_mv ?_; first | refine mv_val rfl ?_)
              | (refine is_as ?_; first | refine as_val rfl ?_ | refine as_new rfl rfl ?_)
              | (refine is_pk ?_; first | refine pk_twoT rfl rfl ?_ | refine pk_twoF rfl rfl ?_ | (refine pk_case rfl ?_ ?_ <;> (intro h; subst h)))
              | (refine is_bo ?_; first | refine rl_binT rfl ?_ | refine rl_binF rfl ?_ | (refine rl_binB rfl ?_; intro _ _) | (refine rl_half rfl (by (try simp only [maxLen_eq, List.length_map, decide_eq_true_eq, decide_eq_false_iff_not] at *); omega) ?_) | (refine rl_binW rfl (by (try simp only [maxLen_eq, List.length_map, decide_eq_true_eq, decide_eq_false_iff_not] at *); omega) ?_) | refine bo_val rfl ?_)
              | (refine is_ld ?_; first | refine ld_load rfl (by first | rfl | (repeat (first | exact lookM_hd | refine lookM_sl rfl ?_))) rfl (by (try simp only [nfA, Nat.reduceAdd]) <;> exact rfl) ?_ | refine ld_valn rfl (by (try simp only [nfA, Nat.reduceAdd]) <;> exact rfl) ?_)
              | (refine is_bs ?_; first | refine bs_new rfl (by (try simp only [nfA, Nat.reduceAdd]) <;> exact rfl) ?_)
              | (refine is_ia ?_; first | (refine ia_elt rfl ?_ (fun _ _ => ?_)))
              | (refine is_cf 27 ?_; first | refine cf (f27_calls) rfl trivial ?_ | refine cf (f27_calls) rfl trivial ?_)
              | (refine is_cf 37 ?_; first | refine cf (f37_calls _) rfl ⟨.inl rfl, trivial⟩ ?_ | refine cf (f37_calls _) rfl ⟨(by first | exact .inl rfl | exact .inr (.inl rfl) | exact .inr (.inr ⟨_, _, rfl, rfl⟩)), trivial⟩ ?_))
          | refine rl_nil ?_
          | (refine is_aw ?_; first
              | refine aw_seq ?_
              | refine aw_scope ?_
              | refine aw_reg rfl ?_
              | refine aw_draw rfl ?_
              | refine aw_condT rfl ?_
              | refine aw_condF rfl ?_
              | (refine aw_condN rfl ?_ ?_ <;> (intro h; subst h))
              | (refine aw_cond rfl ?_ ?_ <;> (intro h; subst h))
              | refine aw_skip ?_
              | refine aw_ret ?_
              | refine aw_exit ?_
              | refine aw_block ?_
              | refine aw_label ?_)
          | refine tq_n ?_
          | refine ng_n ?_
          | refine ng_r ?_
          | refine ng_x ?_
          | refine ⟨(rfl : regOk _ _ = true), ?_⟩
          | refine tq_r ?_
          | refine tq_x ?_
          | refine bq_n ?_
          | refine bq_x ?_
          | refine bq_r ?_
          | refine bq_o rfl ?_
          | refine fq_r rfl ?_
          | refine fq_n rfl ?_)
      all_goals simp_all [normD]
  all_goals first
    | rfl
    | (exfalso
       rename_i hb
       simp only [maxLen_eq, List.length_map, decide_eq_true_eq, decide_eq_false_iff_not, Int.toNat_natCast, Bool.not_eq_true', Bool.not_eq_false', Bool.not_eq_true, Bool.not_eq_false] at *
       exact hb (hn (by omega)))
end Go.Proofs.Ytehhgamkijkjgaa.AM.TT
