/- Contracts of the functions and their models, by the abstract machine. -/
import Derived.Test.YtehhgamkijkjgaaPfH21
import Derived.Test.YtehhgamkijkjgaaPfModz
namespace Go.Proofs.Ytehhgamkijkjgaa.AM.TT
open Go Go.Proofs.Ytehhgamkijkjgaa.AM Go.Proofs
set_option linter.unusedSimpArgs false
set_option linter.unusedVariables false
set_option maxHeartbeats 1000000
attribute [local irreducible] RunL AWp StepK OpK thenQ blockQ noGotoQ fnQ fnEQ
theorem bd_epg {p : Page} (h : Bd (.agg (epg p))) : p.inner.ents.length ≤ 9223372036854775807 := by
  have := (h.agg (.lst 2 (ees p.inner.ents)) (by simp [epg, ei])).lst.1
  simpa using this
abbrev zeroE : List PV := [.dat (I 0), .dat (I 0), .dat (.str []), .dat (I 0), .dat (I 0), .dat (I 0), .dat (.str [])]
theorem enter38 : EnterOk Try.prog 38 := EnterOk_of (fn := Try.f38) (by kernel_rfl) (by kernel_rfl) (by kernel_rfl)
theorem f38_calls (p : Page) (k : Str) (inf up : Bool) : CallsD Try.prog 38 [.agg (epg p), .str k, .bool inf, .bool up] (.agg (epl (backP p k inf up))) := by
  refine CallsD_bd enter38 fun hbd => CallsD_of good mixed (fn := Try.f38) (by kernel_rfl) rfl enter38 (Nat.le_of_ble_eq_true rfl) ?_
  show AWp _ _ _ _ _ ⟨[(0, _), (1, _), (2, _), (3, _)], [], [], 0⟩
  have hc32 := f32_calls p
  have hb := bd_epg (hbd (.agg (epg p)) (by simp))
  obtain ⟨inf', hinf⟩ : ∃ x, x = inf := ⟨_, rfl⟩
  obtain ⟨up', hup⟩ : ∃ x, x = up := ⟨_, rfl⟩
  obtain ⟨pn, phd, pch, prf, plf, ⟨rlo, rhi, run, rri, rro, rgo⟩, ⟨ilo, ihi, iun, iri, ien, ihe, iho⟩⟩ := p
  obtain ⟨ihe', hhe⟩ : ∃ x, x = ihe := ⟨_, rfl⟩
  repeat' (first
      | (refine is_cons ?_; first
          | (refine is_g ?_; first | refine rl_on rfl rfl ?_ | refine rl_off rfl rfl ?_ | refine rl_offU rfl ?_ | (refine rl_case rfl ?_ ?_ <;> (intro h; first | subst h | (simp only [Bool.not_eq_true', Bool.not_eq_false'] at h; subst h))))
          | (refine is_mv ?_; first | refine mv_val rfl ?_)
          | (refine is_fa ?_; first | refine fa_valn rfl (by (try simp only [nfA, Nat.reduceAdd]) <;> exact rfl) ?_)
          | (refine is_ld ?_; first | refine ld_load rfl (by first | rfl | (repeat (first | exact lookM_hd | refine lookM_sl rfl ?_))) rfl (by (try simp only [nfA, Nat.reduceAdd]) <;> exact rfl) ?_ | refine ld_valn rfl (by (try simp only [nfA, Nat.reduceAdd]) <;> exact rfl) ?_)
          | (refine is_as ?_; first | refine as_val rfl ?_ | refine as_new rfl rfl ?_)
          | (refine is_st ?_; first | refine st_store rfl (by first | rfl | (repeat (first | exact lookM_hd | refine lookM_sl rfl ?_))) rfl (by (try simp only [nfA, Nat.reduceAdd]) <;> exact rfl) ?_)
          | (refine is_pk ?_; first | refine pk_twoT rfl rfl ?_ | refine pk_twoF rfl rfl ?_ | (refine pk_case rfl ?_ ?_ <;> (intro h; subst h)))
          | (refine is_bd ?_; first | refine bd_valn rfl (by (try simp only [nfA, Nat.reduceAdd]) <;> exact rfl) ?_)
          | (refine is_bo ?_; first | refine rl_binT rfl ?_ | refine rl_binF rfl ?_ | (refine rl_binB rfl ?_; intro _ _) | (refine rl_half rfl (by (try simp only [maxLen_eq, List.length_map, decide_eq_true_eq, decide_eq_false_iff_not] at *); omega) ?_) | (refine rl_binW rfl (by (try simp only [maxLen_eq, List.length_map, decide_eq_true_eq, decide_eq_false_iff_not] at *); omega) ?_) | refine bo_val rfl ?_)
          | (refine is_ex ?_; first | (refine rl_extB rfl ?_; intro _ _) | refine ex_valn rfl (by (try simp only [nfA, Nat.reduceAdd]) <;> exact rfl) ?_)
          | (refine is_al ?_; first | refine al_alloc rfl (by (try simp only [nfA, Nat.reduceAdd]) <;> exact rfl) ?_)
          | (refine is_uo ?_; first | refine uo_val rfl ?_)
          | (refine is_bx ?_; first | refine bx_alloc rfl (by (try simp only [nfA, Nat.reduceAdd]) <;> exact rfl) ?_)
          | (refine is_ia ?_; first | (refine ia_elt rfl ?_ (fun _ _ => ?_)))
          | (refine is_bi ?_; first | (refine bi_gated rfl (by (try simp only [nfA, Nat.reduceAdd]) <;> exact rfl) ?_; intro _) | refine bi_val rfl ?_ | refine bi_own rfl (by first | rfl | (repeat (first | exact lookB_hd | refine lookB_sl rfl ?_))) ?_ ?_ | refine bi_needN rfl ?_ ?_)
          | (refine is_cf 32 ?_; refine cf hc32 rfl ⟨.inl rfl, trivial⟩ ?_)
          | (refine is_cf 62 ?_; refine cf (f62_calls _ _) rfl ⟨.inl rfl, .inl rfl, trivial⟩ ?_))
      | refine rl_nil ?_
      | (refine is_aw ?_; first
          | refine aw_seq ?_
          | refine aw_scope ?_
          | refine aw_reg rfl ?_
          | refine aw_draw rfl ?_
          | refine aw_condT rfl ?_
          | refine aw_condF rfl ?_
          | (refine aw_condN rfl ?_ ?_ <;> (intro h; subst h))
          | (refine aw_cond rfl ?_ ?_ <;> (intro h; subst h))
          | refine aw_skip ?_
          | refine aw_ret ?_
          | refine aw_exit ?_
          | refine aw_block ?_
          | refine aw_label ?_)
      | refine tq_n ?_
      | refine ng_n ?_
      | refine ng_r ?_
      | refine ng_x ?_
      | refine ⟨(rfl : regOk _ _ = true), ?_⟩
      | refine tq_r ?_
      | refine tq_x ?_
      | refine bq_n ?_
      | refine bq_x ?_
      | refine bq_r ?_
      | refine bq_o rfl ?_
      | refine fq_r rfl ?_
      | refine fq_n rfl ?_)
  all_goals try (first
    | contradiction
    | rfl
    | (clear hbd hc32 hb hinf; unfold backP; simp [*, normD, norm1, epl, plan, noEntry, noHold]; done))
  all_goals
    refine aw_loopX (fun (n : Nat) e => ⟨[(13, .dat (I ((n : Int) - 1))), (8, .ptr (8, 0, 1) 0), (1, .dat (.str k)), (2, .dat (.bool inf')), (4, .ptr (4, 0, 1) 0)], [((4, 0, 1), (epg ⟨pn, phd, pch, prf, false, ⟨rlo, rhi, run, rri, rro, rgo⟩, ⟨ilo, ihi, iun, iri, ien, ihe', iho⟩⟩).map .dat), ((8, 0, 1), zeroE)], [], e⟩) (fun n => n ≤ ien.length ∧ lastE ien k inf' n = lastE ien k inf' ien.length) (fun n => n) ien.length _ (le_of ⟨rfl, rfl, rfl, (by rw [hinf]; rfl), rfl, trivial⟩ ⟨(by rw [hhe]; rfl), rfl, trivial⟩ trivial (Nat.le_refl _)) ⟨Nat.le_refl _, rfl⟩ ?_
    rintro n e ⟨hn, hk⟩
    have hR : ∀ X : Option Entry, lastE ien k inf' ien.length = X → backP ⟨pn, phd, pch, prf, false, ⟨rlo, rhi, run, rri, rro, rgo⟩, ⟨ilo, ihi, iun, iri, ien, ihe', iho⟩⟩ k inf' up' = downP X := by
      intro X hX
      clear hbd hc32 hb hk
      subst hX hinf hup hhe
      unfold backP
      simp [*]
    subst hinf hup hhe
    clear hc32 hbd hb
    repeat' (first
        | (refine is_cons ?_; first
            | (refine is_g ?_; first | refine rl_on rfl rfl ?_ | refine rl_off rfl rfl ?_ | refine rl_offU rfl ?_ | (refine rl_case rfl ?_ ?_ <;> (intro h; first | subst h | (simp only [Bool.not_eq_true', Bool.not_eq_false'] at h; subst h))))
            | (refine is_mv ?_; first | refine mv_val rfl ?_)
            | (refine is_fa ?_; first | refine fa_valn rfl (by (try simp only [nfA, Nat.reduceAdd]) <;> exact rfl) ?_)
            | (refine is_ld ?_; first | refine ld_load rfl (by first | rfl | (repeat (first | exact lookM_hd | refine lookM_sl rfl ?_))) rfl (by (try simp only [nfA, Nat.reduceAdd]) <;> exact rfl) ?_ | refine ld_valn rfl (by (try simp only [nfA, Nat.reduceAdd]) <;> exact rfl) ?_)
            | (refine is_as ?_; first | refine as_val rfl ?_ | refine as_new rfl rfl ?_)
            | (refine is_st ?_; first | refine st_store rfl (by first | rfl | (repeat (first | exact lookM_hd | refine lookM_sl rfl ?_))) rfl (by (try simp only [nfA, Nat.reduceAdd]) <;> exact rfl) ?_)
            | (refine is_pk ?_; first | refine pk_twoT rfl rfl ?_ | refine pk_twoF rfl rfl ?_ | (refine pk_case rfl ?_ ?_ <;> (intro h; subst h)))
            | (refine is_bd ?_; first | refine bd_valn rfl (by (try simp only [nfA, Nat.reduceAdd]) <;> exact rfl) ?_)
            | (refine is_bo ?_; first | refine rl_binT rfl ?_ | refine rl_binF rfl ?_ | (refine rl_binB rfl ?_; intro _ _) | (refine rl_half rfl (by (try simp only [maxLen_eq, List.length_map, decide_eq_true_eq, decide_eq_false_iff_not] at *); omega) ?_) | (refine rl_binW rfl (by (try simp only [maxLen_eq, List.length_map, decide_eq_true_eq, decide_eq_false_iff_not] at *); omega) ?_) | refine bo_val rfl ?_)
            | (refine is_ex ?_; first | (refine rl_extB rfl ?_; intro _ _) | refine ex_valn rfl (by (try simp only [nfA, Nat.reduceAdd]) <;> exact rfl) ?_)
            | (refine is_al ?_; first | refine al_alloc rfl (by (try simp only [nfA, Nat.reduceAdd]) <;> exact rfl) ?_)
            | (refine is_uo ?_; first | refine uo_val rfl ?_)
            | (refine is_bx ?_; first | refine bx_alloc rfl (by (try simp only [nfA, Nat.reduceAdd]) <;> exact rfl) ?_)
            | (refine is_ia ?_; first | (refine ia_elt rfl ?_ (fun _ _ => ?_)))
            | (refine is_bi ?_; first | (refine bi_gated rfl (by (try simp only [nfA, Nat.reduceAdd]) <;> exact rfl) ?_; intro _) | refine bi_val rfl ?_ | refine bi_own rfl (by first | rfl | (repeat (first | exact lookB_hd | refine lookB_sl rfl ?_))) ?_ ?_ | refine bi_needN rfl ?_ ?_)
            | (refine is_cf 62 ?_; refine cf (f62_calls _ _) rfl ⟨.inl rfl, .inl rfl, trivial⟩ ?_))
        | refine rl_nil ?_
        | (refine is_aw ?_; first
            | refine aw_seq ?_
            | refine aw_scope ?_
            | refine aw_reg rfl ?_
            | refine aw_draw rfl ?_
            | refine aw_condT rfl ?_
            | refine aw_condF rfl ?_
            | (refine aw_condN rfl ?_ ?_ <;> (intro h; subst h))
            | (refine aw_cond rfl ?_ ?_ <;> (intro h; subst h))
            | refine aw_skip ?_
            | refine aw_ret ?_
            | refine aw_exit ?_
            | refine aw_block ?_
            | refine aw_label ?_)
        | refine tq_n ?_
        | refine ng_n ?_
        | refine ng_r ?_
        | refine ng_x ?_
        | refine ⟨(rfl : regOk _ _ = true), ?_⟩
        | refine tq_r ?_
        | refine tq_x ?_
        | refine bq_n ?_
        | refine bq_x ?_
        | refine bq_r ?_
        | refine bq_o rfl ?_
        | refine fq_r rfl ?_
        | refine fq_n rfl ?_)
    all_goals try (simp only [maxLen_eq, List.length_map, decide_eq_true_eq, decide_eq_false_iff_not, Int.toNat_natCast, Bool.not_eq_true', Bool.not_eq_false', Bool.not_eq_true, Bool.not_eq_false] at *; omega)
    all_goals first
      | (rw [lastE_stop (by assumption)] at hk; rw [hR _ hk.symm]; rfl)
      | (obtain ⟨m, hm, hs⟩ := lastE_step (k := k) (by assumption) (by assumption)
         rw [hs] at hk
         first
           | (rw [if_pos (by simp [*])] at hk; rw [hR _ hk.symm]; rfl)
           | (rw [if_neg (by simp [*])] at hk
              subst hm
              refine ⟨m, _, by omega, le_of ⟨(by have e3 : ((m + 1 : Nat) : Int) - 1 - 1 = (m : Int) - 1 := (by omega); rw [← e3]; rfl), rfl, rfl, rfl, rfl, trivial⟩ ⟨lookM_sl rfl (lookM_sl rfl lookM_hd), lookM_sl rfl (lookM_sl rfl (lookM_sl rfl lookM_hd)), trivial⟩ trivial (Nat.le_refl _), by omega, hk⟩))
end Go.Proofs.Ytehhgamkijkjgaa.AM.TT
