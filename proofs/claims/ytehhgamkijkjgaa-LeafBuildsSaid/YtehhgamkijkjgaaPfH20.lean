/- Contracts of the functions, by the abstract machine. -/
import Derived.Test.YtehhgamkijkjgaaPfH19
import Derived.Test.YtehhgamkijkjgaaPfMod4
namespace Go.Proofs.Ytehhgamkijkjgaa.AM.TT
open Go Go.Proofs.Ytehhgamkijkjgaa.AM Go.Proofs
set_option linter.unusedSimpArgs false
set_option linter.unusedVariables false
attribute [local irreducible] RunL AWp StepK OpK thenQ blockQ noGotoQ fnQ fnEQ
def encP (x : Except Int Page) : DV := match x with | .ok p => .tup [.agg (epg p), .nilI] | .error c => .tup [.agg (epg noPage), EE c]
theorem f48_calls_all (n : Int) (h : Ref) (l : List Rec) (rf : List Ref) (hs : szL l l.length ≤ 900000) (hsI : szI l l.length ≤ 900000) (he : ∀ r ∈ l, r.ents.length ≤ 1000000) (hr : rf.length ≤ 1000000) : CallsD Try.prog 48 [I n, .agg (ef h), .lst 15 (ecs l), .lst 2 (efs rf)] (encP (ofP n h l rf)) := by
  unfold ofP
  cases hb : l[l.length - 1]? with
  | some b =>
    dsimp only
    by_cases hk : b.kind = 1
    · rw [if_pos (by simpa using hk)]
      have := f48_calls_leaf n h l rf b hb hk hs he hr
      cases hf : foldL l <;> rw [hf] at this <;> exact this
    · rw [if_neg (by simpa using hk)]
      have := f48_calls_inner n h l rf (fun b' hb' => by rw [hb] at hb'; cases hb'; exact hk) hs hsI he hr
      cases hf : foldI l <;> rw [hf] at this <;> exact this
  | none =>
    dsimp only
    rw [if_neg (by simp)]
    have := f48_calls_inner n h l rf (fun b' hb' => by rw [hb] at hb'; cases hb') hs hsI he hr
    cases hf : foldI l <;> rw [hf] at this <;> exact this
theorem enter26 : EnterOk Try.prog 26 := EnterOk_of (fn := Try.f26) (by kernel_rfl) (by kernel_rfl) (by kernel_rfl)
theorem f26_calls (c : Case) : CallsD Try.prog 26 [.agg (ecase c)] (.bool (fewC c)) := by
  refine CallsD_bd enter26 fun hbd => CallsD_of good mixed (fn := Try.f26) (by kernel_rfl) rfl enter26 (Nat.le_of_ble_eq_true rfl) ?_
  show AWp _ _ _ _ _ ⟨[(0, _)], [], [], 0⟩
  obtain ⟨n, ch, ab, so, ke, li, wr⟩ := c
  repeat' (first
      | (refine is_cons ?_; first
          | (refine is_g ?_; first | refine rl_on rfl rfl ?_ | refine rl_off rfl rfl ?_ | refine rl_offU rfl ?_ | (refine rl_case rfl ?_ ?_ <;> (intro h; first | subst h | (simp only [Bool.not_eq_true', Bool.not_eq_false'] at h; subst h))))
          | (refine is_ld ?_; first | refine ld_load rfl (by first | rfl | (repeat (first | exact lookM_hd | refine lookM_sl rfl ?_))) rfl (by (try simp only [nfA, ecase, Nat.reduceAdd]) <;> exact rfl) ?_ | refine ld_valn rfl (by (try simp only [nfA, ecase, Nat.reduceAdd]) <;> exact rfl) ?_)
          | (refine is_fa ?_; first | refine fa_valn rfl (by (try simp only [nfA, ecase, Nat.reduceAdd]) <;> exact rfl) ?_)
          | (refine is_mv ?_; first | refine mv_val rfl ?_)
          | (refine is_pk ?_; first | refine pk_twoT rfl rfl ?_ | refine pk_twoF rfl rfl ?_ | (refine pk_case rfl ?_ ?_ <;> (intro h; subst h)))
          | (refine is_as ?_; first | refine as_val rfl ?_ | refine as_new rfl rfl ?_)
          | (refine is_bo ?_; first | refine rl_binT rfl ?_ | refine rl_binF rfl ?_ | (refine rl_binB rfl ?_; intro _ _) | (refine rl_half rfl (by (try simp only [maxLen_eq, List.length_map, decide_eq_true_eq, decide_eq_false_iff_not] at *); omega) ?_) | (refine rl_binW rfl (by (try simp only [maxLen_eq, List.length_map, decide_eq_true_eq, decide_eq_false_iff_not] at *); omega) ?_) | refine bo_val rfl ?_)
          | (refine is_bx ?_; first | refine bx_alloc rfl (by (try simp only [nfA, ecase, Nat.reduceAdd]) <;> exact rfl) ?_)
          | (refine is_bi ?_; first | (refine bi_gated rfl (by (try simp only [nfA, ecase, Nat.reduceAdd]) <;> exact rfl) ?_; intro _) | refine bi_val rfl ?_ | refine bi_own rfl (by first | rfl | (repeat (first | exact lookB_hd | refine lookB_sl rfl ?_))) ?_ ?_ | refine bi_needN rfl ?_ ?_)
          | (refine is_cf 40 ?_; first | (refine cfB (f40_calls ch) rfl ⟨.inl rfl, trivial⟩ ?_; intro _ _) | (refine cfB (f40_calls ch) rfl ⟨(by first | exact .inl rfl | exact .inr (.inl rfl) | exact .inr (.inr ⟨_, _, rfl, rfl⟩)), trivial⟩ ?_; intro _ _))
          | (refine is_cf 47 ?_; first | (refine cfB (f47_calls ch) rfl ⟨.inl rfl, trivial⟩ ?_; intro _ _) | (refine cfB (f47_calls ch) rfl ⟨(by first | exact .inl rfl | exact .inr (.inl rfl) | exact .inr (.inr ⟨_, _, rfl, rfl⟩)), trivial⟩ ?_; intro _ _))
          | (refine is_cf 40 ?_; first | (refine cfB (f40_calls ab) rfl ⟨.inl rfl, trivial⟩ ?_; intro _ _) | (refine cfB (f40_calls ab) rfl ⟨(by first | exact .inl rfl | exact .inr (.inl rfl) | exact .inr (.inr ⟨_, _, rfl, rfl⟩)), trivial⟩ ?_; intro _ _))
          | (refine is_cf 47 ?_; first | (refine cfB (f47_calls ab) rfl ⟨.inl rfl, trivial⟩ ?_; intro _ _) | (refine cfB (f47_calls ab) rfl ⟨(by first | exact .inl rfl | exact .inr (.inl rfl) | exact .inr (.inr ⟨_, _, rfl, rfl⟩)), trivial⟩ ?_; intro _ _)))
      | refine rl_nil ?_
      | (refine is_aw ?_; first
          | refine aw_seq ?_
          | refine aw_scope ?_
          | refine aw_reg rfl ?_
          | refine aw_draw rfl ?_
          | refine aw_condT rfl ?_
          | refine aw_condF rfl ?_
          | (refine aw_condN rfl ?_ ?_ <;> (intro h; subst h))
          | (refine aw_cond rfl ?_ ?_ <;> (intro h; subst h))
          | refine aw_skip ?_
          | refine aw_ret ?_
          | refine aw_exit ?_
          | refine aw_block ?_
          | refine aw_label ?_)
      | refine tq_n ?_
      | refine ng_n ?_
      | refine ng_r ?_
      | refine ng_x ?_
      | refine ⟨(rfl : regOk _ _ = true), ?_⟩
      | refine tq_r ?_
      | refine tq_x ?_
      | refine bq_n ?_
      | refine bq_x ?_
      | refine bq_r ?_
      | refine bq_o rfl ?_
      | refine fq_r rfl ?_
      | refine fq_n rfl ?_)
  all_goals first
    | (simp_all [normD, fewC]; done)
    | (rename_i b hb
       have e1 : decide ((List.length ke : Int) ≤ 100) = decide (ke.length ≤ 100) := decide_eq_decide.2 (by omega)
       rw [e1] at hb
       simp_all [normD, fewC]; done)
end Go.Proofs.Ytehhgamkijkjgaa.AM.TT
