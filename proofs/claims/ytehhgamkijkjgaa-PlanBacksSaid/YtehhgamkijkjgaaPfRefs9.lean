/- Contracts of the functions and their models, by the abstract machine. -/
import Derived.Test.YtehhgamkijkjgaaPfRefs
import Derived.Test.YtehhgamkijkjgaaPfModz
import Derived.Test.YtehhgamkijkjgaaPfH25
-- tt
-- import Mod4
namespace Go.Proofs.Ytehhgamkijkjgaa.AM.TT
open Go Go.Proofs.Ytehhgamkijkjgaa.AM Go.Proofs
set_option linter.unusedSimpArgs false
set_option linter.unusedVariables false
set_option maxHeartbeats 2000000
attribute [local irreducible] RunL AWp StepK OpK thenQ blockQ noGotoQ fnQ fnEQ
abbrev zeroP84 : List PV := [.dat (I 0), .dat (I 0), .dat (.str []), .dat (I 0), .dat (I 0), .dat (I 0), .dat (.str [])]
theorem lastE_up {l : List Entry} {k : Str} {inf : Bool} {n : Nat} {x : Entry} (hx : l[n]? = some x) : lastE l k inf (n + 1) = if inf || lt x.key k then some x else lastE l k inf n := by
  rw [lastE, show l.getD n default = x by simp [List.getD, hx], cmp_lt]
theorem enter39 : EnterOk Try.prog 39 := EnterOk_of (fn := Try.f39) (by kernel_rfl) (by kernel_rfl) (by kernel_rfl)
theorem f39_calls (p : Page) (k : Str) (inf up : Bool) : CallsD Try.prog 39 [.agg (epg p), .str k, .bool inf, .bool up] (.agg (epl (backP p k inf up))) := by
  refine CallsD_bd enter39 fun hbd => CallsD_of good mixed (fn := Try.f39) (by kernel_rfl) rfl enter39 (Nat.le_of_ble_eq_true rfl) ?_
  show AWp _ _ _ _ _ ⟨[(0, _), (1, _), (2, _), (3, _)], [], [], 0⟩
  obtain ⟨inf', hinf⟩ : ∃ x, x = inf := ⟨_, rfl⟩
  obtain ⟨up', hup⟩ : ∃ x, x = up := ⟨_, rfl⟩
  obtain ⟨pn, phd, pch, prf, plf, ⟨rlo, rhi, run, rri, rro, rgo⟩, ⟨ilo, ihi, iun, iri, ien, ihe, iho⟩⟩ := p
  obtain ⟨ihe', hhe⟩ : ∃ x, x = ihe := ⟨_, rfl⟩
  obtain ⟨iun', hun⟩ : ∃ x, x = iun := ⟨_, rfl⟩
  repeat' (first
      | (refine is_cons ?_; first
          | (refine is_g ?_; first | refine rl_on rfl rfl ?_ | refine rl_off rfl rfl ?_ | refine rl_offU rfl ?_ | (refine rl_case rfl ?_ ?_ <;> (intro h; first | subst h | (simp only [Bool.not_eq_true', Bool.not_eq_false'] at h; subst h))))
          | (refine is_fa ?_; first | refine fa_valn rfl (by (try simp only [nfA, ecase, Nat.reduceAdd]) <;> apply rfl) ?_)
          | (refine is_ld ?_; first | refine ld_load rfl (by first | refine lookM_hd | exact lookM_sl rfl lookM_hd | (repeat (first | refine lookM_hd | refine lookM_sl rfl ?_))) rfl (by (try simp only [nfA, ecase, Nat.reduceAdd]) <;> apply rfl) ?_ | refine ld_valn rfl (by (try simp only [nfA, ecase, Nat.reduceAdd]) <;> apply rfl) ?_)
          | (refine is_mv ?_; first | refine mv_val rfl ?_)
          | (refine is_as ?_; first | refine as_val rfl ?_ | refine as_new rfl rfl ?_)
          | (refine is_st ?_; first | refine st_store rfl (by first | refine lookM_hd | exact lookM_sl rfl lookM_hd | (repeat (first | refine lookM_hd | refine lookM_sl rfl ?_))) rfl (by (try simp only [nfA, ecase, Nat.reduceAdd]) <;> apply rfl) ?_)
          | (refine is_pk ?_; first | refine pk_twoT rfl rfl ?_ | refine pk_twoF rfl rfl ?_ | (refine pk_case rfl ?_ ?_ <;> (intro h; subst h)))
          | (refine is_bd ?_; first | refine bd_valn rfl (by (try simp only [nfA, ecase, Nat.reduceAdd]) <;> apply rfl) ?_)
          | (refine is_bo ?_; first | refine rl_binT rfl ?_ | refine rl_binF rfl ?_ | (refine rl_binB rfl ?_; intro _ _) | (refine rl_half rfl (by (try simp only [maxLen_eq, List.length_map, decide_eq_true_eq, decide_eq_false_iff_not] at *); omega) ?_) | (refine rl_binW rfl (by (try simp only [maxLen_eq, List.length_map, decide_eq_true_eq, decide_eq_false_iff_not] at *); omega) ?_) | refine bo_val rfl ?_)
          | (refine is_al ?_; first | refine al_alloc rfl (by (try simp only [nfA, ecase, Nat.reduceAdd]) <;> apply rfl) ?_)
          | (refine is_uo ?_; first | refine uo_val rfl ?_)
          | (refine is_ia ?_; first | (refine ia_elt rfl ?_ (fun _ _ => ?_)))
          | (refine is_bx ?_; first | refine bx_alloc rfl (by (try simp only [nfA, ecase, Nat.reduceAdd]) <;> apply rfl) ?_)
          | (refine is_bi ?_; first | refine bi_val rfl ?_ | refine bi_own rfl (by first | refine lookB_hd | exact lookB_tt lookB_hd | (repeat (first | refine lookB_hd | refine lookB_sl rfl ?_))) ?_ ?_ | refine bi_needN rfl ?_ ?_ | (refine bi_gated rfl (by (try simp only [nfA, ecase, Nat.reduceAdd]) <;> apply rfl) ?_; intro _))
          | (refine is_cf 55 ?_; first | (refine cfB (f55_calls _ _) rfl ⟨.inl rfl, .inl rfl, trivial⟩ ?_; intro _ _) | (refine cfB (f55_calls _ _) rfl ⟨(by first | exact .inl rfl | exact .inr (.inl rfl) | exact .inr (.inr ⟨_, _, rfl, rfl⟩)), (by first | exact .inl rfl | exact .inr (.inl rfl) | exact .inr (.inr ⟨_, _, rfl, rfl⟩)), trivial⟩ ?_; intro _ _)))
      | refine rl_nil ?_
      | (refine is_aw ?_; first
          | refine aw_seq ?_
          | refine aw_scope ?_
          | refine aw_reg rfl ?_
          | refine aw_draw rfl ?_
          | refine aw_condT rfl ?_
          | refine aw_condF rfl ?_
          | (refine aw_condN rfl ?_ ?_ <;> (intro h; subst h))
          | (refine aw_cond rfl ?_ ?_ <;> (intro h; subst h))
          | refine aw_skip ?_
          | refine aw_ret ?_
          | refine aw_exit ?_
          | refine aw_block ?_
          | refine aw_label ?_)
      | refine tq_n ?_
      | refine ng_n ?_
      | refine ng_r ?_
      | refine ng_x ?_
      | refine ⟨(rfl : regOk _ _ = true), ?_⟩
      | refine tq_r ?_
      | refine tq_x ?_
      | refine bq_n ?_
      | refine bq_x ?_
      | refine bq_r ?_
      | refine bq_o rfl ?_
      | refine fq_r rfl ?_
      | refine fq_n rfl ?_)
  all_goals try (first
    | contradiction
    | rfl
    | (clear hbd hinf hup hhe hun; unfold backP; simp [*, normD, norm1, epl, plan, noEntry, noHold, unbP, rightP, highP, cmp_lt]; done))
  all_goals
    refine aw_loopX (fun (n : Nat) e => ⟨[(13, .dat (I n)), (12, .ptr (12, 0, 10) 0), (8, .ptr (8, 0, 1) 0), (1, .dat (.str k)), (2, .dat (.bool inf')), (4, .ptr (4, 0, 1) 0)], [((4, 0, 1), (epg ⟨pn, phd, pch, prf, false, ⟨rlo, rhi, run, rri, rro, rgo⟩, ⟨ilo, ihi, iun', iri, ien, ihe', iho⟩⟩).map .dat), ((8, 0, 1), zeroP84), ((12, 0, 10), (epl (downP (lastE ien k inf' n))).map .dat)], [], e⟩) (fun n => n ≤ ien.length) (fun n => ien.length - n) 0 _ (le_of ⟨rfl, rfl, rfl, rfl, (by rw [hinf]; rfl), rfl, trivial⟩ ⟨(by rw [hhe, hun]; rfl), rfl, rfl, trivial⟩ trivial (Nat.le_refl _)) (Nat.zero_le _) ?_
    rintro n e hn
    have hR : ∀ X : Option Entry, lastE ien k inf' ien.length = X → backP ⟨pn, phd, pch, prf, false, ⟨rlo, rhi, run, rri, rro, rgo⟩, ⟨ilo, ihi, iun', iri, ien, ihe', iho⟩⟩ k inf' up' = downP X := by
      intro X hX
      clear hbd
      subst hX hinf hup hhe hun
      unfold backP
      simp [*, unbP, highP, cmp_lt]
    have hO := fun (x : Entry) (hx : ien[n]? = some x) => lastE_up (k := k) (inf := inf') hx
    generalize hD : downP (lastE ien k inf' n) = D
    subst hinf hup hhe hun
    clear hbd
    repeat' (first
        | (refine is_cons ?_; first
            | (refine is_g ?_; first | refine rl_on rfl rfl ?_ | refine rl_off rfl rfl ?_ | refine rl_offU rfl ?_ | (refine rl_case rfl ?_ ?_ <;> (intro h; first | subst h | (simp only [Bool.not_eq_true', Bool.not_eq_false'] at h; subst h))))
            | (refine is_fa ?_; first | refine fa_valn rfl (by (try simp only [nfA, ecase, Nat.reduceAdd]) <;> apply rfl) ?_)
            | (refine is_ld ?_; first | refine ld_load rfl (by first | refine lookM_hd | exact lookM_sl rfl lookM_hd | (repeat (first | refine lookM_hd | refine lookM_sl rfl ?_))) rfl (by (try simp only [nfA, ecase, Nat.reduceAdd]) <;> apply rfl) ?_ | refine ld_valn rfl (by (try simp only [nfA, ecase, Nat.reduceAdd]) <;> apply rfl) ?_)
            | (refine is_mv ?_; first | refine mv_val rfl ?_)
            | (refine is_as ?_; first | refine as_val rfl ?_ | refine as_new rfl rfl ?_)
            | (refine is_st ?_; first | refine st_store rfl (by first | refine lookM_hd | exact lookM_sl rfl lookM_hd | (repeat (first | refine lookM_hd | refine lookM_sl rfl ?_))) rfl (by (try simp only [nfA, ecase, Nat.reduceAdd]) <;> apply rfl) ?_)
            | (refine is_pk ?_; first | refine pk_twoT rfl rfl ?_ | refine pk_twoF rfl rfl ?_ | (refine pk_case rfl ?_ ?_ <;> (intro h; subst h)))
            | (refine is_bd ?_; first | refine bd_valn rfl (by (try simp only [nfA, ecase, Nat.reduceAdd]) <;> apply rfl) ?_)
            | (refine is_bo ?_; first | refine rl_binT rfl ?_ | refine rl_binF rfl ?_ | (refine rl_binB rfl ?_; intro _ _) | (refine rl_half rfl (by (try simp only [maxLen_eq, List.length_map, decide_eq_true_eq, decide_eq_false_iff_not] at *); omega) ?_) | (refine rl_binW rfl (by (try simp only [maxLen_eq, List.length_map, decide_eq_true_eq, decide_eq_false_iff_not] at *); omega) ?_) | refine bo_val rfl ?_)
            | (refine is_al ?_; first | refine al_alloc rfl (by (try simp only [nfA, ecase, Nat.reduceAdd]) <;> apply rfl) ?_)
            | (refine is_uo ?_; first | refine uo_val rfl ?_)
            | (refine is_ia ?_; first | (refine ia_elt rfl ?_ (fun _ _ => ?_)))
            | (refine is_bx ?_; first | refine bx_alloc rfl (by (try simp only [nfA, ecase, Nat.reduceAdd]) <;> apply rfl) ?_)
            | (refine is_bi ?_; first | refine bi_val rfl ?_ | refine bi_own rfl (by first | refine lookB_hd | exact lookB_tt lookB_hd | (repeat (first | refine lookB_hd | refine lookB_sl rfl ?_))) ?_ ?_ | refine bi_needN rfl ?_ ?_ | (refine bi_gated rfl (by (try simp only [nfA, ecase, Nat.reduceAdd]) <;> apply rfl) ?_; intro _))
            | (refine is_cf 55 ?_; first | (refine cfB (f55_calls _ _) rfl ⟨.inl rfl, .inl rfl, trivial⟩ ?_; intro _ _) | (refine cfB (f55_calls _ _) rfl ⟨(by first | exact .inl rfl | exact .inr (.inl rfl) | exact .inr (.inr ⟨_, _, rfl, rfl⟩)), (by first | exact .inl rfl | exact .inr (.inl rfl) | exact .inr (.inr ⟨_, _, rfl, rfl⟩)), trivial⟩ ?_; intro _ _)))
        | refine rl_nil ?_
        | (refine is_aw ?_; first
            | refine aw_seq ?_
            | refine aw_scope ?_
            | refine aw_reg rfl ?_
            | refine aw_draw rfl ?_
            | refine aw_condT rfl ?_
            | refine aw_condF rfl ?_
            | (refine aw_condN rfl ?_ ?_ <;> (intro h; subst h))
            | (refine aw_cond rfl ?_ ?_ <;> (intro h; subst h))
            | refine aw_skip ?_
            | refine aw_ret ?_
            | refine aw_exit ?_
            | refine aw_block ?_
            | refine aw_label ?_)
        | refine tq_n ?_
        | refine ng_n ?_
        | refine ng_r ?_
        | refine ng_x ?_
        | refine ⟨(rfl : regOk _ _ = true), ?_⟩
        | refine tq_r ?_
        | refine tq_x ?_
        | refine bq_n ?_
        | refine bq_x ?_
        | refine bq_r ?_
        | refine bq_o rfl ?_
        | refine fq_r rfl ?_
        | refine fq_n rfl ?_)
  all_goals try (simp only [maxLen_eq, List.length_map, decide_eq_true_eq, decide_eq_false_iff_not, Int.toNat_natCast, Bool.not_eq_true', Bool.not_eq_false', Bool.not_eq_true, Bool.not_eq_false] at *; omega)
  all_goals first
    | (simp only [maxLen_eq, List.length_map, decide_eq_true_eq, decide_eq_false_iff_not, Int.toNat_natCast, Bool.not_eq_true', Bool.not_eq_false', Bool.not_eq_true, Bool.not_eq_false] at *
       have hnl : n = ien.length := by omega
       subst hnl
       rw [hR _ rfl, hD]; rfl)
    | (rename_i x1 hx1 hc x hx
       simp only [maxLen_eq, List.length_map, decide_eq_true_eq, decide_eq_false_iff_not, Int.toNat_natCast, Bool.not_eq_true', Bool.not_eq_false', Bool.not_eq_true, Bool.not_eq_false] at *
       rw [hx] at hx1; cases hx1
       refine ⟨n + 1, _, by omega, le_of ⟨rfl, rfl, rfl, rfl, rfl, rfl, trivial⟩ ⟨lk_mem (by repeat (first | refine lookM_hd | refine lookM_sl rfl ?_)) rfl, lk_mem (by repeat (first | refine lookM_hd | refine lookM_sl rfl ?_)) rfl, lk_mem lookM_hd (by rw [hO _ hx, if_pos (by simp [*])]; rfl), trivial⟩ trivial (Nat.le_refl _), by omega⟩)
    | (rename_i x hx
       simp only [maxLen_eq, List.length_map, decide_eq_true_eq, decide_eq_false_iff_not, Int.toNat_natCast, Bool.not_eq_true', Bool.not_eq_false', Bool.not_eq_true, Bool.not_eq_false] at *
       refine ⟨n + 1, _, by omega, le_of ⟨rfl, rfl, rfl, rfl, rfl, rfl, trivial⟩ ⟨lk_mem (by repeat (first | refine lookM_hd | refine lookM_sl rfl ?_)) rfl, lk_mem (by repeat (first | refine lookM_hd | refine lookM_sl rfl ?_)) rfl, lk_mem lookM_hd (by rw [hO _ hx, if_pos (by simp [*])]; rfl), trivial⟩ trivial (Nat.le_refl _), by omega⟩)
    | (rename_i x hx hc
       simp only [maxLen_eq, List.length_map, decide_eq_true_eq, decide_eq_false_iff_not, Int.toNat_natCast, Bool.not_eq_true', Bool.not_eq_false', Bool.not_eq_true, Bool.not_eq_false] at *
       refine ⟨n + 1, _, by omega, le_of ⟨rfl, rfl, rfl, rfl, rfl, rfl, trivial⟩ ⟨lk_mem (by repeat (first | refine lookM_hd | refine lookM_sl rfl ?_)) rfl, lk_mem (by repeat (first | refine lookM_hd | refine lookM_sl rfl ?_)) rfl, lk_mem (by repeat (first | refine lookM_hd | refine lookM_sl rfl ?_)) (by rw [hO _ hx, if_neg (by simp [*]), hD]), trivial⟩ trivial (Nat.le_refl _), by omega⟩)
    | skip
end Go.Proofs.Ytehhgamkijkjgaa.AM.TT
-- tt
-- import Mod4
namespace Go.Proofs.Ytehhgamkijkjgaa.AM.TT
open Go Go.Proofs.Ytehhgamkijkjgaa.AM Go.Proofs
set_option linter.unusedSimpArgs false
set_option linter.unusedVariables false
set_option maxHeartbeats 2000000
attribute [local irreducible] RunL AWp StepK OpK thenQ blockQ noGotoQ fnQ fnEQ
theorem backP_entry (p : Page) (k : Str) (inf up : Bool) : (backP p k inf up).entry = noEntry := by
  unfold backP downP plan
  repeat' split
  all_goals rfl
theorem enter9 : EnterOk Try.prog 9 := EnterOk_of (fn := Try.f9) (by kernel_rfl) (by kernel_rfl) (by kernel_rfl)
theorem f9_calls (c : Case) (last : Bool) : CallsD Try.prog 9 [.agg (ecase c), .bool last] (.bool true) := by
  refine CallsD_bd enter9 fun hbd => CallsD_of good mixed (fn := Try.f9) (by kernel_rfl) rfl enter9 (Nat.le_of_ble_eq_true rfl) ?_
  show AWp _ _ _ _ _ ⟨[(0, _), (1, _)], [], [], 0⟩
  have hc26 := f26_calls c
  cases hf : fewC c with
  | false =>
    rw [hf] at hc26
    obtain ⟨n, ch, ab, so, ke, li, wr⟩ := c
    repeat' (first
        | (refine is_cons ?_; first
            | (refine is_g ?_; first | refine rl_on rfl rfl ?_ | refine rl_off rfl rfl ?_ | refine rl_offU rfl ?_ | (refine rl_case rfl ?_ ?_ <;> (intro h; first | subst h | (simp only [Bool.not_eq_true', Bool.not_eq_false'] at h; subst h))))
            | (refine is_ld ?_; first | refine ld_load rfl (by first | refine lookM_hd | exact lookM_sl rfl lookM_hd | (repeat (first | refine lookM_hd | refine lookM_sl rfl ?_))) rfl (by (try simp only [nfA, ecase, Nat.reduceAdd]) <;> apply rfl) ?_ | refine ld_valn rfl (by (try simp only [nfA, ecase, Nat.reduceAdd]) <;> apply rfl) ?_)
            | (refine is_fa ?_; first | refine fa_valn rfl (by (try simp only [nfA, ecase, Nat.reduceAdd]) <;> apply rfl) ?_)
            | (refine is_mv ?_; first | refine mv_val rfl ?_)
            | (refine is_al ?_; first | refine al_alloc rfl (by (try simp only [nfA, ecase, Nat.reduceAdd]) <;> apply rfl) ?_)
            | (refine is_st ?_; first | refine st_store rfl (by first | refine lookM_hd | exact lookM_sl rfl lookM_hd | (repeat (first | refine lookM_hd | refine lookM_sl rfl ?_))) rfl (by (try simp only [nfA, ecase, Nat.reduceAdd]) <;> apply rfl) ?_)
            | (refine is_as ?_; first | refine as_val rfl ?_ | refine as_new rfl rfl ?_)
            | (refine is_ex ?_; first | (refine rl_extB rfl ?_; intro _ _) | refine ex_valn rfl (by (try simp only [nfA, ecase, Nat.reduceAdd]) <;> apply rfl) ?_)
            | (refine is_uo ?_; first | refine uo_val rfl ?_)
            | (refine is_bo ?_; first | refine rl_binT rfl ?_ | refine rl_binF rfl ?_ | (refine rl_binB rfl ?_; intro _ _) | (refine rl_half rfl (by (try simp only [maxLen_eq, List.length_map, decide_eq_true_eq, decide_eq_false_iff_not] at *); omega) ?_) | (refine rl_binW rfl (by (try simp only [maxLen_eq, List.length_map, decide_eq_true_eq, decide_eq_false_iff_not] at *); omega) ?_) | refine bo_val rfl ?_)
            | (refine is_pk ?_; first | refine pk_twoT rfl rfl ?_ | refine pk_twoF rfl rfl ?_ | (refine pk_case rfl ?_ ?_ <;> (intro h; subst h)))
            | (refine is_bx ?_; first | refine bx_alloc rfl (by (try simp only [nfA, ecase, Nat.reduceAdd]) <;> apply rfl) ?_)
            | (refine is_bd ?_; first | refine bd_valn rfl (by (try simp only [nfA, ecase, Nat.reduceAdd]) <;> apply rfl) ?_)
            | (refine is_cf 26 ?_; refine cf hc26 rfl ⟨.inl rfl, trivial⟩ ?_)
            | (refine is_cf 27 ?_; first | refine cf (f27_calls) rfl trivial ?_ | refine cf (f27_calls) rfl trivial ?_))
        | refine rl_nil ?_
        | (refine is_aw ?_; first
            | refine aw_seq ?_
            | refine aw_scope ?_
            | refine aw_reg rfl ?_
            | refine aw_draw rfl ?_
            | refine aw_condT rfl ?_
            | refine aw_condF rfl ?_
            | (refine aw_condN rfl ?_ ?_ <;> (intro h; subst h))
            | (refine aw_cond rfl ?_ ?_ <;> (intro h; subst h))
            | refine aw_skip ?_
            | refine aw_ret ?_
            | refine aw_exit ?_
            | refine aw_block ?_
            | refine aw_label ?_)
        | refine tq_n ?_
        | refine ng_n ?_
        | refine ng_r ?_
        | refine ng_x ?_
        | refine ⟨(rfl : regOk _ _ = true), ?_⟩
        | refine tq_r ?_
        | refine tq_x ?_
        | refine bq_n ?_
        | refine bq_x ?_
        | refine bq_r ?_
        | refine bq_o rfl ?_
        | refine fq_r rfl ?_
        | refine fq_n rfl ?_)
    all_goals rfl
  | true =>
    rw [hf] at hc26
    have hc28 := f28_calls c hf
    cases hp : madeP c with
    | error e =>
      simp only [encM, hp] at hc28
      obtain ⟨n, ch, ab, so, ke, li, wr⟩ := c
      repeat' (first
          | (refine is_cons ?_; first
              | (refine is_g ?_; first | refine rl_on rfl rfl ?_ | refine rl_off rfl rfl ?_ | refine rl_offU rfl ?_ | (refine rl_case rfl ?_ ?_ <;> (intro h; first | subst h | (simp only [Bool.not_eq_true', Bool.not_eq_false'] at h; subst h))))
              | (refine is_ld ?_; first | refine ld_load rfl (by first | refine lookM_hd | exact lookM_sl rfl lookM_hd | (repeat (first | refine lookM_hd | refine lookM_sl rfl ?_))) rfl (by (try simp only [nfA, ecase, Nat.reduceAdd]) <;> apply rfl) ?_ | refine ld_valn rfl (by (try simp only [nfA, ecase, Nat.reduceAdd]) <;> apply rfl) ?_)
              | (refine is_fa ?_; first | refine fa_valn rfl (by (try simp only [nfA, ecase, Nat.reduceAdd]) <;> apply rfl) ?_)
              | (refine is_mv ?_; first | refine mv_val rfl ?_)
              | (refine is_al ?_; first | refine al_alloc rfl (by (try simp only [nfA, ecase, Nat.reduceAdd]) <;> apply rfl) ?_)
              | (refine is_st ?_; first | refine st_store rfl (by first | refine lookM_hd | exact lookM_sl rfl lookM_hd | (repeat (first | refine lookM_hd | refine lookM_sl rfl ?_))) rfl (by (try simp only [nfA, ecase, Nat.reduceAdd]) <;> apply rfl) ?_)
              | (refine is_as ?_; first | refine as_val rfl ?_ | refine as_new rfl rfl ?_)
              | (refine is_ex ?_; first | (refine rl_extB rfl ?_; intro _ _) | refine ex_valn rfl (by (try simp only [nfA, ecase, Nat.reduceAdd]) <;> apply rfl) ?_)
              | (refine is_uo ?_; first | refine uo_val rfl ?_)
              | (refine is_bo ?_; first | refine rl_binT rfl ?_ | refine rl_binF rfl ?_ | (refine rl_binB rfl ?_; intro _ _) | (refine rl_half rfl (by (try simp only [maxLen_eq, List.length_map, decide_eq_true_eq, decide_eq_false_iff_not] at *); omega) ?_) | (refine rl_binW rfl (by (try simp only [maxLen_eq, List.length_map, decide_eq_true_eq, decide_eq_false_iff_not] at *); omega) ?_) | refine bo_val rfl ?_)
              | (refine is_pk ?_; first | refine pk_twoT rfl rfl ?_ | refine pk_twoF rfl rfl ?_ | (refine pk_case rfl ?_ ?_ <;> (intro h; subst h)))
              | (refine is_bx ?_; first | refine bx_alloc rfl (by (try simp only [nfA, ecase, Nat.reduceAdd]) <;> apply rfl) ?_)
              | (refine is_bd ?_; first | refine bd_valn rfl (by (try simp only [nfA, ecase, Nat.reduceAdd]) <;> apply rfl) ?_)
              | (refine is_cf 26 ?_; refine cf hc26 rfl ⟨.inl rfl, trivial⟩ ?_)
              | (refine is_cf 27 ?_; first | refine cf (f27_calls) rfl trivial ?_ | refine cf (f27_calls) rfl trivial ?_)
              | (refine is_cf 28 ?_; refine cf hc28 rfl ⟨.inl rfl, trivial⟩ ?_))
          | refine rl_nil ?_
          | (refine is_aw ?_; first
              | refine aw_seq ?_
              | refine aw_scope ?_
              | refine aw_reg rfl ?_
              | refine aw_draw rfl ?_
              | refine aw_condT rfl ?_
              | refine aw_condF rfl ?_
              | (refine aw_condN rfl ?_ ?_ <;> (intro h; subst h))
              | (refine aw_cond rfl ?_ ?_ <;> (intro h; subst h))
              | refine aw_skip ?_
              | refine aw_ret ?_
              | refine aw_exit ?_
              | refine aw_block ?_
              | refine aw_label ?_)
          | refine tq_n ?_
          | refine ng_n ?_
          | refine ng_r ?_
          | refine ng_x ?_
          | refine ⟨(rfl : regOk _ _ = true), ?_⟩
          | refine tq_r ?_
          | refine tq_x ?_
          | refine bq_n ?_
          | refine bq_x ?_
          | refine bq_r ?_
          | refine bq_o rfl ?_
          | refine fq_r rfl ?_
          | refine fq_n rfl ?_)
      all_goals first
        | contradiction
        | rfl
    | ok p =>
      have hl := madeP_len hf hp
      have hc29 := f29_calls c p hf hp
      have hu := madeA_up c
      have hpo := madeP_ok hp
      simp only [encM, hp] at hc28
      generalize madeA c = A at hc28 hc29 hu
      have hc30 := f38_calls p c.key last c.writes
      have hc31 := f39_calls p c.key last c.writes
      have hE := backP_entry p c.key last c.writes
      generalize backP p c.key last c.writes = X at hc30 hc31 hE
      clear hu hpo hp hf hl
      obtain ⟨n, ch, ab, so, ke, li, wr⟩ := c
      simp only at hc30 hc31
      repeat' (first
          | (refine is_cons ?_; first
              | (refine is_g ?_; first | refine rl_on rfl rfl ?_ | refine rl_off rfl rfl ?_ | refine rl_offU rfl ?_ | (refine rl_case rfl ?_ ?_ <;> (intro h; first | subst h | (simp only [Bool.not_eq_true', Bool.not_eq_false'] at h; subst h))))
              | (refine is_ld ?_; first | refine ld_load rfl (by first | refine lookM_hd | exact lookM_sl rfl lookM_hd | (repeat (first | refine lookM_hd | refine lookM_sl rfl ?_))) rfl (by (try simp only [nfA, ecase, Nat.reduceAdd]) <;> apply rfl) ?_ | refine ld_valn rfl (by (try simp only [nfA, ecase, Nat.reduceAdd]) <;> apply rfl) ?_)
              | (refine is_fa ?_; first | refine fa_valn rfl (by (try simp only [nfA, ecase, Nat.reduceAdd]) <;> apply rfl) ?_)
              | (refine is_mv ?_; first | refine mv_val rfl ?_)
              | (refine is_al ?_; first | refine al_alloc rfl (by (try simp only [nfA, ecase, Nat.reduceAdd]) <;> apply rfl) ?_)
              | (refine is_st ?_; first | refine st_store rfl (by first | refine lookM_hd | exact lookM_sl rfl lookM_hd | (repeat (first | refine lookM_hd | refine lookM_sl rfl ?_))) rfl (by (try simp only [nfA, ecase, Nat.reduceAdd]) <;> apply rfl) ?_)
              | (refine is_as ?_; first | refine as_val rfl ?_ | refine as_new rfl rfl ?_)
              | (refine is_ex ?_; first | (refine rl_extB rfl ?_; intro _ _) | refine ex_valn rfl (by (try simp only [nfA, ecase, Nat.reduceAdd]) <;> apply rfl) ?_)
              | (refine is_uo ?_; first | refine uo_val rfl ?_)
              | (refine is_bo ?_; first | refine rl_binT rfl ?_ | refine rl_binF rfl ?_ | (refine rl_binB rfl ?_; intro _ _) | (refine rl_half rfl (by (try simp only [maxLen_eq, List.length_map, decide_eq_true_eq, decide_eq_false_iff_not] at *); omega) ?_) | (refine rl_binW rfl (by (try simp only [maxLen_eq, List.length_map, decide_eq_true_eq, decide_eq_false_iff_not] at *); omega) ?_) | refine bo_val rfl ?_)
              | (refine is_pk ?_; first | refine pk_twoT rfl rfl ?_ | refine pk_twoF rfl rfl ?_ | (refine pk_case rfl ?_ ?_ <;> (intro h; subst h)))
              | (refine is_bx ?_; first | refine bx_alloc rfl (by (try simp only [nfA, ecase, Nat.reduceAdd]) <;> apply rfl) ?_)
              | (refine is_bd ?_; first | refine bd_valn rfl (by (try simp only [nfA, ecase, Nat.reduceAdd]) <;> apply rfl) ?_)
              | (refine is_cf 26 ?_; refine cf hc26 rfl ⟨.inl rfl, trivial⟩ ?_)
              | (refine is_cf 27 ?_; first | refine cf (f27_calls) rfl trivial ?_ | refine cf (f27_calls) rfl trivial ?_)
              | (refine is_cf 28 ?_; refine cf hc28 rfl ⟨.inl rfl, trivial⟩ ?_)
              | (refine is_cf 29 ?_; refine cf hc29 rfl ⟨.inl rfl, trivial⟩ ?_)
              | (refine is_cf 38 ?_; refine cf hc30 rfl ⟨.inl rfl, .inl rfl, .inl rfl, .inl rfl, trivial⟩ ?_)
              | (refine is_cf 39 ?_; refine cf hc31 rfl ⟨.inl rfl, .inl rfl, .inl rfl, .inl rfl, trivial⟩ ?_))
          | refine rl_nil ?_
          | (refine is_aw ?_; first
              | refine aw_seq ?_
              | refine aw_scope ?_
              | refine aw_reg rfl ?_
              | refine aw_draw rfl ?_
              | refine aw_condT rfl ?_
              | refine aw_condF rfl ?_
              | (refine aw_condN rfl ?_ ?_ <;> (intro h; subst h))
              | (refine aw_cond rfl ?_ ?_ <;> (intro h; subst h))
              | refine aw_skip ?_
              | refine aw_ret ?_
              | refine aw_exit ?_
              | refine aw_block ?_
              | refine aw_label ?_)
          | refine tq_n ?_
          | refine ng_n ?_
          | refine ng_r ?_
          | refine ng_x ?_
          | refine ⟨(rfl : regOk _ _ = true), ?_⟩
          | refine tq_r ?_
          | refine tq_x ?_
          | refine bq_n ?_
          | refine bq_x ?_
          | refine bq_r ?_
          | refine bq_o rfl ?_
          | refine fq_r rfl ?_
          | refine fq_n rfl ?_)
      all_goals first
        | contradiction
        | rfl
        | (exfalso; clear hc26 hc28 hc29 hc30 hc31 hbd; simp [hE, noEntry] at *; done)
        | skip
end Go.Proofs.Ytehhgamkijkjgaa.AM.TT
