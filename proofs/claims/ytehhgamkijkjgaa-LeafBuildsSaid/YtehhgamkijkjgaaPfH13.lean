/- Contracts of the functions, by the abstract machine. -/
import Derived.Test.YtehhgamkijkjgaaPfH12
namespace Go.Proofs.Ytehhgamkijkjgaa.AM.TT
open Go Go.Proofs.Ytehhgamkijkjgaa.AM Go.Proofs
set_option linter.unusedSimpArgs false
set_option linter.unusedVariables false
attribute [local irreducible] RunL AWp StepK OpK thenQ blockQ noGotoQ fnQ fnEQ
theorem bd_ei {v : IView} (h : Bd (.agg (ei v))) : v.ents.length ≤ 9223372036854775807 := by
  have := (h.agg (.lst 2 (ees v.ents)) (by simp [ei])).lst.1
  simpa using this
theorem enter74 : EnterOk Try.prog 74 := EnterOk_of (fn := Try.f74) (by kernel_rfl) (by kernel_rfl) (by kernel_rfl)
theorem f74_calls (v : IView) : CallsD Try.prog 74 [.agg (ei v)] (.bool (soundI v)) := by
  refine CallsD_bd enter74 fun hbd => CallsD_of good mixed (fn := Try.f74) (by kernel_rfl) rfl enter74 (Nat.le_of_ble_eq_true rfl) ?_
  show AWp _ _ _ _ _ ⟨[(0, _)], [], [], 0⟩
  have hb := bd_ei (hbd (.agg (ei v)) (by simp))
  obtain ⟨vl, vh, vu, vr, es, hd, hold⟩ := v
  simp only at hb
  repeat' (first
      | (refine is_cons ?_; first
          | (refine is_g ?_; first | refine rl_on rfl rfl ?_ | refine rl_off rfl rfl ?_ | refine rl_offU rfl ?_ | (refine rl_case rfl ?_ ?_ <;> (intro h; first | subst h | (simp only [Bool.not_eq_true', Bool.not_eq_false'] at h; subst h))))
          | (refine is_ld ?_; first | refine ld_load rfl (by first | rfl | (repeat (first | exact lookM_hd | refine lookM_sl rfl ?_))) rfl (by (try simp only [nfA, Nat.reduceAdd]) <;> exact rfl) ?_ | refine ld_valn rfl (by (try simp only [nfA, Nat.reduceAdd]) <;> exact rfl) ?_)
          | (refine is_fa ?_; first | refine fa_valn rfl (by (try simp only [nfA, Nat.reduceAdd]) <;> exact rfl) ?_)
          | (refine is_mv ?_; first | refine mv_val rfl ?_)
          | (refine is_bo ?_; first | refine rl_binT rfl ?_ | refine rl_binF rfl ?_ | (refine rl_binB rfl ?_; intro _ _) | (refine rl_half rfl (by (try simp only [maxLen_eq, List.length_map, decide_eq_true_eq, decide_eq_false_iff_not] at *); omega) ?_) | (refine rl_binW rfl (by (try simp only [maxLen_eq, List.length_map, decide_eq_true_eq, decide_eq_false_iff_not] at *); omega) ?_) | refine bo_val rfl ?_)
          | (refine is_as ?_; first | refine as_val rfl ?_ | refine as_new rfl rfl ?_)
          | (refine is_pk ?_; first | refine pk_twoT rfl rfl ?_ | refine pk_twoF rfl rfl ?_ | (refine pk_case rfl ?_ ?_ <;> (intro h; subst h)))
          | (refine is_ia ?_; first | (refine ia_elt rfl ?_ (fun _ _ => ?_)))
          | (refine is_al ?_; first | refine al_alloc rfl (by (try simp only [nfA, Nat.reduceAdd]) <;> exact rfl) ?_)
          | (refine is_bx ?_; first | refine bx_alloc rfl (by (try simp only [nfA, Nat.reduceAdd]) <;> exact rfl) ?_)
          | (refine is_st ?_; first | refine st_store rfl (by first | rfl | (repeat (first | exact lookM_hd | refine lookM_sl rfl ?_))) rfl (by (try simp only [nfA, Nat.reduceAdd]) <;> exact rfl) ?_)
          | (refine is_uo ?_; first | refine uo_val rfl ?_)
          | (refine is_bi ?_; first | (refine bi_gated rfl (by (try simp only [nfA, Nat.reduceAdd]) <;> exact rfl) ?_; intro _) | refine bi_val rfl ?_ | refine bi_own rfl (by first | rfl | (repeat (first | exact lookB_hd | refine lookB_sl rfl ?_))) ?_ ?_ | refine bi_needN rfl ?_ ?_))
      | refine rl_nil ?_
      | (refine is_aw ?_; first
          | refine aw_seq ?_
          | refine aw_scope ?_
          | refine aw_reg rfl ?_
          | refine aw_draw rfl ?_
          | refine aw_condT rfl ?_
          | refine aw_condF rfl ?_
          | (refine aw_condN rfl ?_ ?_ <;> (intro h; subst h))
          | (refine aw_cond rfl ?_ ?_ <;> (intro h; subst h))
          | refine aw_skip ?_
          | refine aw_ret ?_
          | refine aw_exit ?_
          | refine aw_block ?_
          | refine aw_label ?_)
      | refine tq_n ?_
      | refine ng_n ?_
      | refine ng_r ?_
      | refine ng_x ?_
      | refine ⟨(rfl : regOk _ _ = true), ?_⟩
      | refine tq_r ?_
      | refine tq_x ?_
      | refine bq_n ?_
      | refine bq_x ?_
      | refine bq_r ?_
      | refine bq_o rfl ?_
      | refine fq_r rfl ?_
      | refine fq_n rfl ?_)
  · simp only [maxLen_eq, List.length_map, decide_eq_true_eq, decide_eq_false_iff_not, Int.toNat_natCast, Bool.not_eq_true', Bool.not_eq_false', Bool.not_eq_true, Bool.not_eq_false] at *; simp_all [normD, norm1, soundI]
  · simp only [maxLen_eq, List.length_map, decide_eq_true_eq, decide_eq_false_iff_not, Int.toNat_natCast, Bool.not_eq_true', Bool.not_eq_false', Bool.not_eq_true, Bool.not_eq_false] at *; omega
  · rename_i h1 x hx hc; simp only [maxLen_eq, List.length_map, decide_eq_true_eq, decide_eq_false_iff_not, Int.toNat_natCast, Bool.not_eq_true', Bool.not_eq_false', Bool.not_eq_true, Bool.not_eq_false] at *
    have h0 : es.head? = some x := by rw [List.head?_eq_getElem?]; exact hx
    simp [normD, norm1, soundI, h0, hc]
  · rename_i h1 x hx hc hd2; simp only [maxLen_eq, List.length_map, decide_eq_true_eq, decide_eq_false_iff_not, Int.toNat_natCast, Bool.not_eq_true', Bool.not_eq_false', Bool.not_eq_true, Bool.not_eq_false] at *
    simp_all [normD, norm1, soundI]
  · rename_i h1 x hx hc hd2 _
    have h0 : es.head? = some x := by rw [List.head?_eq_getElem?]; exact hx
    have hsd : soundI ⟨vl, vh, true, vr, es, hd, hold⟩ = risingI ⟨vl, vh, true, vr, es, hd, hold⟩ := by
      simp only [maxLen_eq, List.length_map, decide_eq_true_eq, decide_eq_false_iff_not, Int.toNat_natCast, Bool.not_eq_true', Bool.not_eq_false', Bool.not_eq_true, Bool.not_eq_false] at *
      simp_all [soundI]
    rw [hsd]
    refine aw_loopX (fun (n : Nat) e => ⟨[(31, .dat (I n)), (30, .dat (I es.length)), (29, .dat (.lst 2 (ees es))), (1, .ptr (1, 0, 1) 0)], [((1, 0, 1), (ei ⟨vl, vh, true, vr, es, hd, hold⟩).map .dat)], [], e⟩) (fun n => ∀ j, j < n → hasI ⟨vl, vh, true, vr, es, hd, hold⟩ (es.getD j default).key = true ∧ (0 < j → lt (es.getD (j - 1) default).key (es.getD j default).key = true)) (fun n => es.length - n) 0 _ (le_of ⟨rfl, rfl, rfl, rfl, trivial⟩ ⟨rfl, trivial⟩ trivial (Nat.le_refl _)) (by simp) ?_
    intro n e hn
    repeat' (first
        | (refine is_cons ?_; first
            | (refine is_g ?_; first | refine rl_on rfl rfl ?_ | refine rl_off rfl rfl ?_ | refine rl_offU rfl ?_ | (refine rl_case rfl ?_ ?_ <;> (intro h; first | subst h | (simp only [Bool.not_eq_true', Bool.not_eq_false'] at h; subst h))))
            | (refine is_ld ?_; first | refine ld_load rfl (by first | rfl | (repeat (first | exact lookM_hd | refine lookM_sl rfl ?_))) rfl (by (try simp only [nfA, Nat.reduceAdd]) <;> exact rfl) ?_ | refine ld_valn rfl (by (try simp only [nfA, Nat.reduceAdd]) <;> exact rfl) ?_)
            | (refine is_fa ?_; first | refine fa_valn rfl (by (try simp only [nfA, Nat.reduceAdd]) <;> exact rfl) ?_)
            | (refine is_mv ?_; first | refine mv_val rfl ?_)
            | (refine is_bo ?_; first | refine rl_binT rfl ?_ | refine rl_binF rfl ?_ | (refine rl_binB rfl ?_; intro _ _) | (refine rl_half rfl (by (try simp only [maxLen_eq, List.length_map, decide_eq_true_eq, decide_eq_false_iff_not] at *); omega) ?_) | (refine rl_binW rfl (by (try simp only [maxLen_eq, List.length_map, decide_eq_true_eq, decide_eq_false_iff_not] at *); omega) ?_) | refine bo_val rfl ?_)
            | (refine is_as ?_; first | refine as_val rfl ?_ | refine as_new rfl rfl ?_)
            | (refine is_pk ?_; first | refine pk_twoT rfl rfl ?_ | refine pk_twoF rfl rfl ?_ | (refine pk_case rfl ?_ ?_ <;> (intro h; subst h)))
            | (refine is_ia ?_; first | (refine ia_elt rfl ?_ (fun _ _ => ?_)))
            | (refine is_al ?_; first | refine al_alloc rfl (by (try simp only [nfA, Nat.reduceAdd]) <;> exact rfl) ?_)
            | (refine is_bx ?_; first | refine bx_alloc rfl (by (try simp only [nfA, Nat.reduceAdd]) <;> exact rfl) ?_)
            | (refine is_st ?_; first | refine st_store rfl (by first | rfl | (repeat (first | exact lookM_hd | refine lookM_sl rfl ?_))) rfl (by (try simp only [nfA, Nat.reduceAdd]) <;> exact rfl) ?_)
            | (refine is_uo ?_; first | refine uo_val rfl ?_)
            | (refine is_bi ?_; first | (refine bi_gated rfl (by (try simp only [nfA, Nat.reduceAdd]) <;> exact rfl) ?_; intro _) | refine bi_val rfl ?_ | refine bi_own rfl (by first | rfl | (repeat (first | exact lookB_hd | refine lookB_sl rfl ?_))) ?_ ?_ | refine bi_needN rfl ?_ ?_)
            | (refine is_cf 61 ?_; first | (refine cfB (f61_calls ⟨vl, vh, true, vr, es, hd, hold⟩ _) rfl ⟨.inl rfl, .inl rfl, trivial⟩ ?_; intro _ _) | (refine cfB (f61_calls ⟨vl, vh, true, vr, es, hd, hold⟩ _) rfl ⟨(by first | exact .inl rfl | exact .inr (.inl rfl) | exact .inr (.inr ⟨_, _, rfl, rfl⟩)), (by first | exact .inl rfl | exact .inr (.inl rfl) | exact .inr (.inr ⟨_, _, rfl, rfl⟩)), trivial⟩ ?_; intro _ _))
            | (refine is_cf 62 ?_; first | refine cf (f62_calls _ _) rfl ⟨.inl rfl, .inl rfl, trivial⟩ ?_ | refine cf (f62_calls _ _) rfl ⟨(by first | exact .inl rfl | exact .inr (.inl rfl) | exact .inr (.inr ⟨_, _, rfl, rfl⟩)), (by first | exact .inl rfl | exact .inr (.inl rfl) | exact .inr (.inr ⟨_, _, rfl, rfl⟩)), trivial⟩ ?_))
        | refine rl_nil ?_
        | (refine is_aw ?_; first
            | refine aw_seq ?_
            | refine aw_scope ?_
            | refine aw_reg rfl ?_
            | refine aw_draw rfl ?_
            | refine aw_condT rfl ?_
            | refine aw_condF rfl ?_
            | (refine aw_condN rfl ?_ ?_ <;> (intro h; subst h))
            | (refine aw_cond rfl ?_ ?_ <;> (intro h; subst h))
            | refine aw_skip ?_
            | refine aw_ret ?_
            | refine aw_exit ?_
            | refine aw_block ?_
            | refine aw_label ?_)
        | refine tq_n ?_
        | refine ng_n ?_
        | refine ng_r ?_
        | refine ng_x ?_
        | refine ⟨(rfl : regOk _ _ = true), ?_⟩
        | refine tq_r ?_
        | refine tq_x ?_
        | refine bq_n ?_
        | refine bq_x ?_
        | refine bq_r ?_
        | refine bq_o rfl ?_
        | refine fq_r rfl ?_
        | refine fq_n rfl ?_)
    · simp only [maxLen_eq, List.length_map, decide_eq_true_eq, decide_eq_false_iff_not, Int.toNat_natCast, Bool.not_eq_true', Bool.not_eq_false', Bool.not_eq_true, Bool.not_eq_false] at *; omega
    · rename_i hl y hy hf
      simp only [maxLen_eq, List.length_map, decide_eq_true_eq, decide_eq_false_iff_not, Int.toNat_natCast, Bool.not_eq_true', Bool.not_eq_false', Bool.not_eq_true, Bool.not_eq_false] at *
      have hy' : es.getD n default = y := by simp [List.getD, hy]
      have : risingI ⟨vl, vh, true, vr, es, hd, hold⟩ = false := by
        rw [Bool.eq_false_iff]
        intro q
        have := (risingI_iff.1 q n (by dsimp only; omega)).1
        dsimp only at this
        rw [hy', hf] at this
        cases this
      simp [normD, norm1, this]
    · simp only [maxLen_eq, List.length_map, decide_eq_true_eq, decide_eq_false_iff_not, Int.toNat_natCast, Bool.not_eq_true', Bool.not_eq_false', Bool.not_eq_true, Bool.not_eq_false] at *; omega
    · rename_i hl y hy hf hz z hzz hc
      simp only [cmp_ge] at hc
      simp only [maxLen_eq, List.length_map, decide_eq_true_eq, decide_eq_false_iff_not, Int.toNat_natCast, Bool.not_eq_true', Bool.not_eq_false', Bool.not_eq_true, Bool.not_eq_false] at *
      have hy' : es.getD n default = y := by simp [List.getD, hy]
      have hz' : es.getD (n - 1) default = z := by
        have e : ((n : Int) - 1).toNat = n - 1 := by omega
        rw [e] at hzz
        simp [List.getD, hzz]
      have : risingI ⟨vl, vh, true, vr, es, hd, hold⟩ = false := by
        rw [Bool.eq_false_iff]
        intro q
        have := (risingI_iff.1 q n (by dsimp only; omega)).2 (by omega)
        dsimp only at this
        rw [hy', hz', hc] at this
        cases this
      simp [normD, norm1, this]
    · rename_i hl y hy hf hz z hzz hc
      simp only [cmp_ge] at hc
      simp only [maxLen_eq, List.length_map, decide_eq_true_eq, decide_eq_false_iff_not, Int.toNat_natCast, Bool.not_eq_true', Bool.not_eq_false', Bool.not_eq_true, Bool.not_eq_false] at *
      have hy' : es.getD n default = y := by simp [List.getD, hy]
      have hz' : es.getD (n - 1) default = z := by
        have e : ((n : Int) - 1).toNat = n - 1 := by omega
        rw [e] at hzz
        simp [List.getD, hzz]
      refine ⟨n + 1, _, by omega, le_of ⟨rfl, rfl, rfl, rfl, trivial⟩ ⟨lookM_sl rfl (lookM_sl rfl lookM_hd), trivial⟩ trivial (Nat.le_refl _), fun j hj => ?_⟩
      rcases Nat.lt_or_ge j n with h1 | h1
      · exact hn j h1
      · have : j = n := by omega
        subst this
        rw [hy', hz']
        exact ⟨hf, fun _ => hc⟩
    · rename_i hl y hy hf hz
      simp only [maxLen_eq, List.length_map, decide_eq_true_eq, decide_eq_false_iff_not, Int.toNat_natCast, Bool.not_eq_true', Bool.not_eq_false', Bool.not_eq_true, Bool.not_eq_false] at *
      have hy' : es.getD n default = y := by simp [List.getD, hy]
      refine ⟨n + 1, _, by omega, le_of ⟨rfl, rfl, rfl, rfl, trivial⟩ ⟨lookM_sl rfl (lookM_sl rfl lookM_hd), trivial⟩ trivial (Nat.le_refl _), fun j hj => ?_⟩
      rcases Nat.lt_or_ge j n with h1 | h1
      · exact hn j h1
      · have : j = n := by omega
        subst this
        rw [hy']
        exact ⟨hf, fun q => by omega⟩
    · rename_i hl
      simp only [maxLen_eq, List.length_map, decide_eq_true_eq, decide_eq_false_iff_not, Int.toNat_natCast, Bool.not_eq_true', Bool.not_eq_false', Bool.not_eq_true, Bool.not_eq_false] at *
      have : risingI ⟨vl, vh, true, vr, es, hd, hold⟩ = true := risingI_iff.2 fun j hj => hn j (by dsimp only at hj; omega)
      simp [normD, norm1, this]
  · rename_i h1 x hx hc _
    have h0 : es.head? = some x := by rw [List.head?_eq_getElem?]; exact hx
    have hsd : soundI ⟨vl, vh, false, vr, es, hd, hold⟩ = risingI ⟨vl, vh, false, vr, es, hd, hold⟩ := by
      simp only [maxLen_eq, List.length_map, decide_eq_true_eq, decide_eq_false_iff_not, Int.toNat_natCast, Bool.not_eq_true', Bool.not_eq_false', Bool.not_eq_true, Bool.not_eq_false] at *
      simp_all [soundI]
    rw [hsd]
    refine aw_loopX (fun (n : Nat) e => ⟨[(31, .dat (I n)), (30, .dat (I es.length)), (29, .dat (.lst 2 (ees es))), (1, .ptr (1, 0, 1) 0)], [((1, 0, 1), (ei ⟨vl, vh, false, vr, es, hd, hold⟩).map .dat)], [], e⟩) (fun n => ∀ j, j < n → hasI ⟨vl, vh, false, vr, es, hd, hold⟩ (es.getD j default).key = true ∧ (0 < j → lt (es.getD (j - 1) default).key (es.getD j default).key = true)) (fun n => es.length - n) 0 _ (le_of ⟨rfl, rfl, rfl, rfl, trivial⟩ ⟨rfl, trivial⟩ trivial (Nat.le_refl _)) (by simp) ?_
    intro n e hn
    repeat' (first
        | (refine is_cons ?_; first
            | (refine is_g ?_; first | refine rl_on rfl rfl ?_ | refine rl_off rfl rfl ?_ | refine rl_offU rfl ?_ | (refine rl_case rfl ?_ ?_ <;> (intro h; first | subst h | (simp only [Bool.not_eq_true', Bool.not_eq_false'] at h; subst h))))
            | (refine is_ld ?_; first | refine ld_load rfl (by first | rfl | (repeat (first | exact lookM_hd | refine lookM_sl rfl ?_))) rfl (by (try simp only [nfA, Nat.reduceAdd]) <;> exact rfl) ?_ | refine ld_valn rfl (by (try simp only [nfA, Nat.reduceAdd]) <;> exact rfl) ?_)
            | (refine is_fa ?_; first | refine fa_valn rfl (by (try simp only [nfA, Nat.reduceAdd]) <;> exact rfl) ?_)
            | (refine is_mv ?_; first | refine mv_val rfl ?_)
            | (refine is_bo ?_; first | refine rl_binT rfl ?_ | refine rl_binF rfl ?_ | (refine rl_binB rfl ?_; intro _ _) | (refine rl_half rfl (by (try simp only [maxLen_eq, List.length_map, decide_eq_true_eq, decide_eq_false_iff_not] at *); omega) ?_) | (refine rl_binW rfl (by (try simp only [maxLen_eq, List.length_map, decide_eq_true_eq, decide_eq_false_iff_not] at *); omega) ?_) | refine bo_val rfl ?_)
            | (refine is_as ?_; first | refine as_val rfl ?_ | refine as_new rfl rfl ?_)
            | (refine is_pk ?_; first | refine pk_twoT rfl rfl ?_ | refine pk_twoF rfl rfl ?_ | (refine pk_case rfl ?_ ?_ <;> (intro h; subst h)))
            | (refine is_ia ?_; first | (refine ia_elt rfl ?_ (fun _ _ => ?_)))
            | (refine is_al ?_; first | refine al_alloc rfl (by (try simp only [nfA, Nat.reduceAdd]) <;> exact rfl) ?_)
            | (refine is_bx ?_; first | refine bx_alloc rfl (by (try simp only [nfA, Nat.reduceAdd]) <;> exact rfl) ?_)
            | (refine is_st ?_; first | refine st_store rfl (by first | rfl | (repeat (first | exact lookM_hd | refine lookM_sl rfl ?_))) rfl (by (try simp only [nfA, Nat.reduceAdd]) <;> exact rfl) ?_)
            | (refine is_uo ?_; first | refine uo_val rfl ?_)
            | (refine is_bi ?_; first | (refine bi_gated rfl (by (try simp only [nfA, Nat.reduceAdd]) <;> exact rfl) ?_; intro _) | refine bi_val rfl ?_ | refine bi_own rfl (by first | rfl | (repeat (first | exact lookB_hd | refine lookB_sl rfl ?_))) ?_ ?_ | refine bi_needN rfl ?_ ?_)
            | (refine is_cf 61 ?_; first | (refine cfB (f61_calls ⟨vl, vh, false, vr, es, hd, hold⟩ _) rfl ⟨.inl rfl, .inl rfl, trivial⟩ ?_; intro _ _) | (refine cfB (f61_calls ⟨vl, vh, false, vr, es, hd, hold⟩ _) rfl ⟨(by first | exact .inl rfl | exact .inr (.inl rfl) | exact .inr (.inr ⟨_, _, rfl, rfl⟩)), (by first | exact .inl rfl | exact .inr (.inl rfl) | exact .inr (.inr ⟨_, _, rfl, rfl⟩)), trivial⟩ ?_; intro _ _))
            | (refine is_cf 62 ?_; first | refine cf (f62_calls _ _) rfl ⟨.inl rfl, .inl rfl, trivial⟩ ?_ | refine cf (f62_calls _ _) rfl ⟨(by first | exact .inl rfl | exact .inr (.inl rfl) | exact .inr (.inr ⟨_, _, rfl, rfl⟩)), (by first | exact .inl rfl | exact .inr (.inl rfl) | exact .inr (.inr ⟨_, _, rfl, rfl⟩)), trivial⟩ ?_))
        | refine rl_nil ?_
        | (refine is_aw ?_; first
            | refine aw_seq ?_
            | refine aw_scope ?_
            | refine aw_reg rfl ?_
            | refine aw_draw rfl ?_
            | refine aw_condT rfl ?_
            | refine aw_condF rfl ?_
            | (refine aw_condN rfl ?_ ?_ <;> (intro h; subst h))
            | (refine aw_cond rfl ?_ ?_ <;> (intro h; subst h))
            | refine aw_skip ?_
            | refine aw_ret ?_
            | refine aw_exit ?_
            | refine aw_block ?_
            | refine aw_label ?_)
        | refine tq_n ?_
        | refine ng_n ?_
        | refine ng_r ?_
        | refine ng_x ?_
        | refine ⟨(rfl : regOk _ _ = true), ?_⟩
        | refine tq_r ?_
        | refine tq_x ?_
        | refine bq_n ?_
        | refine bq_x ?_
        | refine bq_r ?_
        | refine bq_o rfl ?_
        | refine fq_r rfl ?_
        | refine fq_n rfl ?_)
    · simp only [maxLen_eq, List.length_map, decide_eq_true_eq, decide_eq_false_iff_not, Int.toNat_natCast, Bool.not_eq_true', Bool.not_eq_false', Bool.not_eq_true, Bool.not_eq_false] at *; omega
    · rename_i hl y hy hf
      simp only [maxLen_eq, List.length_map, decide_eq_true_eq, decide_eq_false_iff_not, Int.toNat_natCast, Bool.not_eq_true', Bool.not_eq_false', Bool.not_eq_true, Bool.not_eq_false] at *
      have hy' : es.getD n default = y := by simp [List.getD, hy]
      have : risingI ⟨vl, vh, false, vr, es, hd, hold⟩ = false := by
        rw [Bool.eq_false_iff]
        intro q
        have := (risingI_iff.1 q n (by dsimp only; omega)).1
        dsimp only at this
        rw [hy', hf] at this
        cases this
      simp [normD, norm1, this]
    · simp only [maxLen_eq, List.length_map, decide_eq_true_eq, decide_eq_false_iff_not, Int.toNat_natCast, Bool.not_eq_true', Bool.not_eq_false', Bool.not_eq_true, Bool.not_eq_false] at *; omega
    · rename_i hl y hy hf hz z hzz hc
      simp only [cmp_ge] at hc
      simp only [maxLen_eq, List.length_map, decide_eq_true_eq, decide_eq_false_iff_not, Int.toNat_natCast, Bool.not_eq_true', Bool.not_eq_false', Bool.not_eq_true, Bool.not_eq_false] at *
      have hy' : es.getD n default = y := by simp [List.getD, hy]
      have hz' : es.getD (n - 1) default = z := by
        have e : ((n : Int) - 1).toNat = n - 1 := by omega
        rw [e] at hzz
        simp [List.getD, hzz]
      have : risingI ⟨vl, vh, false, vr, es, hd, hold⟩ = false := by
        rw [Bool.eq_false_iff]
        intro q
        have := (risingI_iff.1 q n (by dsimp only; omega)).2 (by omega)
        dsimp only at this
        rw [hy', hz', hc] at this
        cases this
      simp [normD, norm1, this]
    · rename_i hl y hy hf hz z hzz hc
      simp only [cmp_ge] at hc
      simp only [maxLen_eq, List.length_map, decide_eq_true_eq, decide_eq_false_iff_not, Int.toNat_natCast, Bool.not_eq_true', Bool.not_eq_false', Bool.not_eq_true, Bool.not_eq_false] at *
      have hy' : es.getD n default = y := by simp [List.getD, hy]
      have hz' : es.getD (n - 1) default = z := by
        have e : ((n : Int) - 1).toNat = n - 1 := by omega
        rw [e] at hzz
        simp [List.getD, hzz]
      refine ⟨n + 1, _, by omega, le_of ⟨rfl, rfl, rfl, rfl, trivial⟩ ⟨lookM_sl rfl (lookM_sl rfl lookM_hd), trivial⟩ trivial (Nat.le_refl _), fun j hj => ?_⟩
      rcases Nat.lt_or_ge j n with h1 | h1
      · exact hn j h1
      · have : j = n := by omega
        subst this
        rw [hy', hz']
        exact ⟨hf, fun _ => hc⟩
    · rename_i hl y hy hf hz
      simp only [maxLen_eq, List.length_map, decide_eq_true_eq, decide_eq_false_iff_not, Int.toNat_natCast, Bool.not_eq_true', Bool.not_eq_false', Bool.not_eq_true, Bool.not_eq_false] at *
      have hy' : es.getD n default = y := by simp [List.getD, hy]
      refine ⟨n + 1, _, by omega, le_of ⟨rfl, rfl, rfl, rfl, trivial⟩ ⟨lookM_sl rfl (lookM_sl rfl lookM_hd), trivial⟩ trivial (Nat.le_refl _), fun j hj => ?_⟩
      rcases Nat.lt_or_ge j n with h1 | h1
      · exact hn j h1
      · have : j = n := by omega
        subst this
        rw [hy']
        exact ⟨hf, fun q => by omega⟩
    · rename_i hl
      simp only [maxLen_eq, List.length_map, decide_eq_true_eq, decide_eq_false_iff_not, Int.toNat_natCast, Bool.not_eq_true', Bool.not_eq_false', Bool.not_eq_true, Bool.not_eq_false] at *
      have : risingI ⟨vl, vh, false, vr, es, hd, hold⟩ = true := risingI_iff.2 fun j hj => hn j (by dsimp only at hj; omega)
      simp [normD, norm1, this]
def encC (x : Option Entry) : DV := match x with | some x => .tup [.agg (ee x), .nilI] | none => .tup [.agg (ee noEntry), EE 2]
theorem enter34 : EnterOk Try.prog 34 := EnterOk_of (fn := Try.f34) (by kernel_rfl) (by kernel_rfl) (by kernel_rfl)
theorem f34_calls (v : IView) (k : Str) (hs : v.ents.length ≤ 1000000) : CallsD Try.prog 34 [.agg (ei v), .str k] (encC (childI v k)) := by
  refine CallsD_bd enter34 fun hbd => CallsD_of good mixed (fn := Try.f34) (by kernel_rfl) rfl enter34 (Nat.le_of_ble_eq_true rfl) ?_
  show AWp _ _ _ _ _ ⟨[(0, _), (1, _)], [], [], 0⟩
  have hp := placeE_le v.ents k
  repeat' (first
      | (refine is_cons ?_; first
          | (refine is_g ?_; first | refine rl_on rfl rfl ?_ | refine rl_off rfl rfl ?_ | refine rl_offU rfl ?_ | (refine rl_case rfl ?_ ?_ <;> (intro h; first | subst h | (simp only [Bool.not_eq_true', Bool.not_eq_false'] at h; subst h))))
          | (refine is_mv ?_; first | refine mv_val rfl ?_)
          | (refine is_as ?_; first | refine as_val rfl ?_ | refine as_new rfl rfl ?_)
          | (refine is_ld ?_; first | refine ld_load rfl (by first | rfl | (repeat (first | exact lookM_hd | refine lookM_sl rfl ?_))) rfl (by (try simp only [nfA, Nat.reduceAdd]) <;> exact rfl) ?_ | refine ld_valn rfl (by (try simp only [nfA, Nat.reduceAdd]) <;> exact rfl) ?_)
          | (refine is_bo ?_; first | refine rl_binT rfl ?_ | refine rl_binF rfl ?_ | (refine rl_binB rfl ?_; intro _ _) | (refine rl_half rfl (by (try simp only [maxLen_eq, List.length_map, decide_eq_true_eq, decide_eq_false_iff_not] at *); omega) ?_) | (refine rl_binW rfl (by (try simp only [maxLen_eq, List.length_map, decide_eq_true_eq, decide_eq_false_iff_not] at *); omega) ?_) | refine bo_val rfl ?_)
          | (refine is_ex ?_; first | (refine rl_extB rfl ?_; intro _ _) | refine ex_valn rfl (by (try simp only [nfA, Nat.reduceAdd]) <;> exact rfl) ?_)
          | (refine is_st ?_; first | refine st_store rfl (by first | rfl | (repeat (first | exact lookM_hd | refine lookM_sl rfl ?_))) rfl (by (try simp only [nfA, Nat.reduceAdd]) <;> exact rfl) ?_)
          | (refine is_fa ?_; first | refine fa_valn rfl (by (try simp only [nfA, Nat.reduceAdd]) <;> exact rfl) ?_)
          | (refine is_pk ?_; first | refine pk_twoT rfl rfl ?_ | refine pk_twoF rfl rfl ?_ | (refine pk_case rfl ?_ ?_ <;> (intro h; subst h)))
          | (refine is_al ?_; first | refine al_alloc rfl (by (try simp only [nfA, Nat.reduceAdd]) <;> exact rfl) ?_)
          | (refine is_bx ?_; first | refine bx_alloc rfl (by (try simp only [nfA, Nat.reduceAdd]) <;> exact rfl) ?_)
          | (refine is_bd ?_; first | refine bd_valn rfl (by (try simp only [nfA, Nat.reduceAdd]) <;> exact rfl) ?_)
          | (refine is_uo ?_; first | refine uo_val rfl ?_)
          | (refine is_ia ?_; first | (refine ia_elt rfl ?_ (fun _ _ => ?_)))
          | (refine is_mi ?_; first | refine mi_val rfl ?_)
          | (refine is_cf 60 ?_; first | refine cf (f60_calls v _) rfl ⟨.inl rfl, .inl rfl, trivial⟩ ?_ | refine cf (f60_calls v _) rfl ⟨(by first | exact .inl rfl | exact .inr (.inl rfl) | exact .inr (.inr ⟨_, _, rfl, rfl⟩)), (by first | exact .inl rfl | exact .inr (.inl rfl) | exact .inr (.inr ⟨_, _, rfl, rfl⟩)), trivial⟩ ?_)
          | (refine is_cf 61 ?_; first | (refine cfB (f61_calls v _) rfl ⟨.inl rfl, .inl rfl, trivial⟩ ?_; intro _ _) | (refine cfB (f61_calls v _) rfl ⟨(by first | exact .inl rfl | exact .inr (.inl rfl) | exact .inr (.inr ⟨_, _, rfl, rfl⟩)), (by first | exact .inl rfl | exact .inr (.inl rfl) | exact .inr (.inr ⟨_, _, rfl, rfl⟩)), trivial⟩ ?_; intro _ _)))
      | refine rl_nil ?_
      | (refine is_aw ?_; first
          | refine aw_seq ?_
          | refine aw_scope ?_
          | refine aw_reg rfl ?_
          | refine aw_draw rfl ?_
          | refine aw_condT rfl ?_
          | refine aw_condF rfl ?_
          | (refine aw_condN rfl ?_ ?_ <;> (intro h; subst h))
          | (refine aw_cond rfl ?_ ?_ <;> (intro h; subst h))
          | refine aw_skip ?_
          | refine aw_ret ?_
          | refine aw_exit ?_
          | refine aw_block ?_
          | refine aw_label ?_)
      | refine tq_n ?_
      | refine ng_n ?_
      | refine ng_r ?_
      | refine ng_x ?_
      | refine ⟨(rfl : regOk _ _ = true), ?_⟩
      | refine tq_r ?_
      | refine tq_x ?_
      | refine bq_n ?_
      | refine bq_x ?_
      | refine bq_r ?_
      | refine bq_o rfl ?_
      | refine fq_r rfl ?_
      | refine fq_n rfl ?_)
  · simp [childI, *, encC, normD, norm1, ee, noEntry]
  · rename_i h1 h2; have := placeE_lt h1; omega
  · rename_i h1 h2 x hx
    have e : ((placeE v.ents k : Int) + 1 - 1).toNat = placeE v.ents k := by omega
    rw [e] at hx
    simp [childI, h1, h2, hx, encC, normD, norm1, ee]
  · simp [childI, *, encC, normD, norm1, ee, noEntry]
  · rename_i h1 h2 h3; simp only [maxLen_eq, List.length_map, decide_eq_true_eq, decide_eq_false_iff_not, Int.toNat_natCast, Bool.not_eq_true', Bool.not_eq_false', Bool.not_eq_true, Bool.not_eq_false] at *
    have e : placeE v.ents k = 0 := by omega
    simp [childI, h1, h2, e, encC, normD, norm1, ee, noEntry]
  · simp only [maxLen_eq, List.length_map, decide_eq_true_eq, decide_eq_false_iff_not, Int.toNat_natCast, Bool.not_eq_true', Bool.not_eq_false', Bool.not_eq_true, Bool.not_eq_false] at *; omega
  · rename_i h1 h2 h3 x hx
    have e : ((placeE v.ents k : Int) - 1).toNat = placeE v.ents k - 1 := by omega
    rw [e] at hx
    simp only [maxLen_eq, List.length_map, decide_eq_true_eq, decide_eq_false_iff_not, Int.toNat_natCast, Bool.not_eq_true', Bool.not_eq_false', Bool.not_eq_true, Bool.not_eq_false] at *
    have e2 : ¬ placeE v.ents k = 0 := by omega
    simp [childI, h1, h2, hx, e2, encC, normD, norm1, ee]
theorem enter75 : EnterOk Try.prog 75 := EnterOk_of (fn := Try.f75) (by kernel_rfl) (by kernel_rfl) (by kernel_rfl)
theorem f75_calls_put (v : IView) (r : Rec) (hk : r.kind = 8) (hh : v.held = false) (hs : v.ents.length ≤ 900000) : CallsD Try.prog 75 [.agg (ei v), .agg (ec r)] (.tup [.agg (ei (upI v r).1), .bool (upI v r).2]) := by
  refine CallsD_bd enter75 fun hbd => CallsD_of good mixed (fn := Try.f75) (by kernel_rfl) rfl enter75 (Nat.le_of_ble_eq_true rfl) ?_
  show AWp _ _ _ _ _ ⟨[(0, _), (1, _)], [], [], 0⟩
  have hp := placeE_le v.ents r.key
  obtain ⟨vl, vh, vu, vr, vs, vg, vo⟩ := v
  obtain ⟨k, rl, rh, ru, rr, rs, re, rk, rv, rp, rho, rne⟩ := r
  simp only at hk hs hh hp
  subst hk hh
  repeat' (first
      | (refine is_cons ?_; first
          | (refine is_g ?_; first | refine rl_on rfl rfl ?_ | refine rl_off rfl rfl ?_ | refine rl_offU rfl ?_ | (refine rl_case rfl ?_ ?_ <;> (intro h; first | subst h | (simp only [Bool.not_eq_true', Bool.not_eq_false'] at h; subst h))))
          | (refine is_fa ?_; first | refine fa_valn rfl (by (try simp only [nfA, Nat.reduceAdd]) <;> exact rfl) ?_)
          | (refine is_ld ?_; first | refine ld_load rfl (by first | rfl | (repeat (first | exact lookM_hd | refine lookM_sl rfl ?_))) rfl (by (try simp only [nfA, Nat.reduceAdd]) <;> exact rfl) ?_ | refine ld_valn rfl (by (try simp only [nfA, Nat.reduceAdd]) <;> exact rfl) ?_)
          | (refine is_mv ?_; first | refine mv_val rfl ?_)
          | (refine is_as ?_; first | refine as_val rfl ?_ | refine as_new rfl rfl ?_)
          | (refine is_st ?_; first | refine st_store rfl (by first | rfl | (repeat (first | exact lookM_hd | refine lookM_sl rfl ?_))) rfl (by (try simp only [nfA, Nat.reduceAdd]) <;> exact rfl) ?_)
          | (refine is_bo ?_; first | refine rl_binT rfl ?_ | refine rl_binF rfl ?_ | (refine rl_binB rfl ?_; intro _ _) | (refine rl_half rfl (by (try simp only [maxLen_eq, List.length_map, decide_eq_true_eq, decide_eq_false_iff_not] at *); omega) ?_) | (refine rl_binW rfl (by (try simp only [maxLen_eq, List.length_map, decide_eq_true_eq, decide_eq_false_iff_not] at *); omega) ?_) | refine bo_val rfl ?_)
          | (refine is_pk ?_; first | refine pk_twoT rfl rfl ?_ | refine pk_twoF rfl rfl ?_ | (refine pk_case rfl ?_ ?_ <;> (intro h; subst h)))
          | (refine is_ex ?_; first | (refine rl_extB rfl ?_; intro _ _) | refine ex_valn rfl (by (try simp only [nfA, Nat.reduceAdd]) <;> exact rfl) ?_)
          | (refine is_uo ?_; first | refine uo_val rfl ?_)
          | (refine is_sl ?_; first | refine sl_need rfl (by (try simp only [nfA, Nat.reduceAdd]) <;> exact rfl) ?_ ?_)
          | (refine is_bs ?_; first | refine bs_new rfl (by (try simp only [nfA, Nat.reduceAdd]) <;> exact rfl) ?_)
          | (refine is_bx ?_; first | refine bx_alloc rfl (by (try simp only [nfA, Nat.reduceAdd]) <;> exact rfl) ?_)
          | (refine is_bd ?_; first | refine bd_valn rfl (by (try simp only [nfA, Nat.reduceAdd]) <;> exact rfl) ?_)
          | (refine is_ia ?_; first | (refine ia_elt rfl ?_ (fun _ _ => ?_)))
          | (refine is_al ?_; first | refine al_alloc rfl (by (try simp only [nfA, Nat.reduceAdd]) <;> exact rfl) ?_)
          | (refine is_cf 60 ?_; first | refine cf (f60_calls ⟨vl, vh, vu, vr, vs, false, vo⟩ _) rfl ⟨.inl rfl, .inl rfl, trivial⟩ ?_ | refine cf (f60_calls ⟨vl, vh, vu, vr, vs, false, vo⟩ _) rfl ⟨(by first | exact .inl rfl | exact .inr (.inl rfl) | exact .inr (.inr ⟨_, _, rfl, rfl⟩)), (by first | exact .inl rfl | exact .inr (.inl rfl) | exact .inr (.inr ⟨_, _, rfl, rfl⟩)), trivial⟩ ?_)
          | (refine is_cf 61 ?_; first | (refine cfB (f61_calls ⟨vl, vh, vu, vr, vs, false, vo⟩ _) rfl ⟨.inl rfl, .inl rfl, trivial⟩ ?_; intro _ _) | (refine cfB (f61_calls ⟨vl, vh, vu, vr, vs, false, vo⟩ _) rfl ⟨(by first | exact .inl rfl | exact .inr (.inl rfl) | exact .inr (.inr ⟨_, _, rfl, rfl⟩)), (by first | exact .inl rfl | exact .inr (.inl rfl) | exact .inr (.inr ⟨_, _, rfl, rfl⟩)), trivial⟩ ?_; intro _ _))
          | (refine is_cf 73 ?_; first | refine cf (f73_calls [vs.take (placeE vs rk), [⟨rk, rp⟩], vs.drop (placeE vs rk)] (by simp; omega)) rfl ⟨.inl rfl, trivial⟩ ?_ | refine cf (f73_calls [vs.take (placeE vs rk), [⟨rk, rp⟩], vs.drop (placeE vs rk)] (by simp; omega)) rfl ⟨(by first | exact .inl rfl | exact .inr (.inl rfl) | exact .inr (.inr ⟨_, _, rfl, rfl⟩)), trivial⟩ ?_))
      | refine rl_nil ?_
      | (refine is_aw ?_; first
          | refine aw_seq ?_
          | refine aw_scope ?_
          | refine aw_reg rfl ?_
          | refine aw_draw rfl ?_
          | refine aw_condT rfl ?_
          | refine aw_condF rfl ?_
          | (refine aw_condN rfl ?_ ?_ <;> (intro h; subst h))
          | (refine aw_cond rfl ?_ ?_ <;> (intro h; subst h))
          | refine aw_skip ?_
          | refine aw_ret ?_
          | refine aw_exit ?_
          | refine aw_block ?_
          | refine aw_label ?_)
      | refine tq_n ?_
      | refine ng_n ?_
      | refine ng_r ?_
      | refine ng_x ?_
      | refine ⟨(rfl : regOk _ _ = true), ?_⟩
      | refine tq_r ?_
      | refine tq_x ?_
      | refine bq_n ?_
      | refine bq_x ?_
      | refine bq_r ?_
      | refine bq_o rfl ?_
      | refine fq_r rfl ?_
      | refine fq_n rfl ?_)
  all_goals (try simp only [List.length_map] at *)
  all_goals first
    | omega
    | (simp [normD, norm1, upI, ei, *]; done)
  all_goals trace_state
theorem f75_calls_split (v : IView) (r : Rec) (hk : r.kind = 9) (hh : v.held = false) (hs : v.ents.length ≤ 900000) : CallsD Try.prog 75 [.agg (ei v), .agg (ec r)] (.tup [.agg (ei (upI v r).1), .bool (upI v r).2]) := by
  refine CallsD_bd enter75 fun hbd => CallsD_of good mixed (fn := Try.f75) (by kernel_rfl) rfl enter75 (Nat.le_of_ble_eq_true rfl) ?_
  show AWp _ _ _ _ _ ⟨[(0, _), (1, _)], [], [], 0⟩
  have hp := placeE_le v.ents r.key
  obtain ⟨vl, vh, vu, vr, vs, vg, vo⟩ := v
  obtain ⟨k, rl, rh, ru, rr, rs, re, rk, rv, rp, rho, rne⟩ := r
  simp only at hk hs hh hp
  subst hk hh
  repeat' (first
      | (refine is_cons ?_; first
          | (refine is_g ?_; first | refine rl_on rfl rfl ?_ | refine rl_off rfl rfl ?_ | refine rl_offU rfl ?_ | (refine rl_case rfl ?_ ?_ <;> (intro h; first | subst h | (simp only [Bool.not_eq_true', Bool.not_eq_false'] at h; subst h))))
          | (refine is_fa ?_; first | refine fa_valn rfl (by (try simp only [nfA, Nat.reduceAdd]) <;> exact rfl) ?_)
          | (refine is_ld ?_; first | refine ld_load rfl (by first | rfl | (repeat (first | exact lookM_hd | refine lookM_sl rfl ?_))) rfl (by (try simp only [nfA, Nat.reduceAdd]) <;> exact rfl) ?_ | refine ld_valn rfl (by (try simp only [nfA, Nat.reduceAdd]) <;> exact rfl) ?_)
          | (refine is_mv ?_; first | refine mv_val rfl ?_)
          | (refine is_as ?_; first | refine as_val rfl ?_ | refine as_new rfl rfl ?_)
          | (refine is_st ?_; first | refine st_store rfl (by first | rfl | (repeat (first | exact lookM_hd | refine lookM_sl rfl ?_))) rfl (by (try simp only [nfA, Nat.reduceAdd]) <;> exact rfl) ?_)
          | (refine is_bo ?_; first | refine rl_binT rfl ?_ | refine rl_binF rfl ?_ | (refine rl_binB rfl ?_; intro _ _) | (refine rl_half rfl (by (try simp only [maxLen_eq, List.length_map, decide_eq_true_eq, decide_eq_false_iff_not] at *); omega) ?_) | (refine rl_binW rfl (by (try simp only [maxLen_eq, List.length_map, decide_eq_true_eq, decide_eq_false_iff_not] at *); omega) ?_) | refine bo_val rfl ?_)
          | (refine is_pk ?_; first | refine pk_twoT rfl rfl ?_ | refine pk_twoF rfl rfl ?_ | (refine pk_case rfl ?_ ?_ <;> (intro h; subst h)))
          | (refine is_ex ?_; first | (refine rl_extB rfl ?_; intro _ _) | refine ex_valn rfl (by (try simp only [nfA, Nat.reduceAdd]) <;> exact rfl) ?_)
          | (refine is_uo ?_; first | refine uo_val rfl ?_)
          | (refine is_sl ?_; first | refine sl_need rfl (by (try simp only [nfA, Nat.reduceAdd]) <;> exact rfl) ?_ ?_)
          | (refine is_bs ?_; first | refine bs_new rfl (by (try simp only [nfA, Nat.reduceAdd]) <;> exact rfl) ?_)
          | (refine is_bx ?_; first | refine bx_alloc rfl (by (try simp only [nfA, Nat.reduceAdd]) <;> exact rfl) ?_)
          | (refine is_bd ?_; first | refine bd_valn rfl (by (try simp only [nfA, Nat.reduceAdd]) <;> exact rfl) ?_)
          | (refine is_ia ?_; first | (refine ia_elt rfl ?_ (fun _ _ => ?_)))
          | (refine is_al ?_; first | refine al_alloc rfl (by (try simp only [nfA, Nat.reduceAdd]) <;> exact rfl) ?_)
          | (refine is_cf 60 ?_; first | refine cf (f60_calls ⟨vl, vh, vu, vr, vs, false, vo⟩ _) rfl ⟨.inl rfl, .inl rfl, trivial⟩ ?_ | refine cf (f60_calls ⟨vl, vh, vu, vr, vs, false, vo⟩ _) rfl ⟨(by first | exact .inl rfl | exact .inr (.inl rfl) | exact .inr (.inr ⟨_, _, rfl, rfl⟩)), (by first | exact .inl rfl | exact .inr (.inl rfl) | exact .inr (.inr ⟨_, _, rfl, rfl⟩)), trivial⟩ ?_)
          | (refine is_cf 73 ?_; first | refine cf (f73_calls [vs.take (placeE vs rk)] (by simp; omega)) rfl ⟨.inl rfl, trivial⟩ ?_ | refine cf (f73_calls [vs.take (placeE vs rk)] (by simp; omega)) rfl ⟨(by first | exact .inl rfl | exact .inr (.inl rfl) | exact .inr (.inr ⟨_, _, rfl, rfl⟩)), trivial⟩ ?_))
      | refine rl_nil ?_
      | (refine is_aw ?_; first
          | refine aw_seq ?_
          | refine aw_scope ?_
          | refine aw_reg rfl ?_
          | refine aw_draw rfl ?_
          | refine aw_condT rfl ?_
          | refine aw_condF rfl ?_
          | (refine aw_condN rfl ?_ ?_ <;> (intro h; subst h))
          | (refine aw_cond rfl ?_ ?_ <;> (intro h; subst h))
          | refine aw_skip ?_
          | refine aw_ret ?_
          | refine aw_exit ?_
          | refine aw_block ?_
          | refine aw_label ?_)
      | refine tq_n ?_
      | refine ng_n ?_
      | refine ng_r ?_
      | refine ng_x ?_
      | refine ⟨(rfl : regOk _ _ = true), ?_⟩
      | refine tq_r ?_
      | refine tq_x ?_
      | refine bq_n ?_
      | refine bq_x ?_
      | refine bq_r ?_
      | refine bq_o rfl ?_
      | refine fq_r rfl ?_
      | refine fq_n rfl ?_)
  all_goals (try simp only [List.length_map, decide_eq_true_eq, decide_eq_false_iff_not] at *)
  all_goals first
    | omega
    | (simp [normD, norm1, upI, ei, *]; done)
    | (simp_all [normD, norm1, upI, ei]; done)
  all_goals trace_state
theorem f75_calls_drop (v : IView) (r : Rec) (hk : r.kind = 11) (hh : v.held = true) (ht : thereE v.ents v.hold.key = true) (hs : v.ents.length ≤ 900000) : CallsD Try.prog 75 [.agg (ei v), .agg (ec r)] (.tup [.agg (ei (upI v r).1), .bool (upI v r).2]) := by
  refine CallsD_bd enter75 fun hbd => CallsD_of good mixed (fn := Try.f75) (by kernel_rfl) rfl enter75 (Nat.le_of_ble_eq_true rfl) ?_
  show AWp _ _ _ _ _ ⟨[(0, _), (1, _)], [], [], 0⟩
  have hp := placeE_lt ht
  obtain ⟨vl, vh, vu, vr, vs, vg, vo⟩ := v
  obtain ⟨k, rl, rh, ru, rr, rs, re, rk, rv, rp, rho, rne⟩ := r
  simp only at hk hs hh hp ht
  subst hk hh
  repeat' (first
      | (refine is_cons ?_; first
          | (refine is_g ?_; first | refine rl_on rfl rfl ?_ | refine rl_off rfl rfl ?_ | refine rl_offU rfl ?_ | (refine rl_case rfl ?_ ?_ <;> (intro h; first | subst h | (simp only [Bool.not_eq_true', Bool.not_eq_false'] at h; subst h))))
          | (refine is_fa ?_; first | refine fa_valn rfl (by (try simp only [nfA, Nat.reduceAdd]) <;> exact rfl) ?_)
          | (refine is_ld ?_; first | refine ld_load rfl (by first | rfl | (repeat (first | exact lookM_hd | refine lookM_sl rfl ?_))) rfl (by (try simp only [nfA, Nat.reduceAdd]) <;> exact rfl) ?_ | refine ld_valn rfl (by (try simp only [nfA, Nat.reduceAdd]) <;> exact rfl) ?_)
          | (refine is_mv ?_; first | refine mv_val rfl ?_)
          | (refine is_as ?_; first | refine as_val rfl ?_ | refine as_new rfl rfl ?_)
          | (refine is_st ?_; first | refine st_store rfl (by first | rfl | (repeat (first | exact lookM_hd | refine lookM_sl rfl ?_))) rfl (by (try simp only [nfA, Nat.reduceAdd]) <;> exact rfl) ?_)
          | (refine is_bo ?_; first | refine rl_binT rfl ?_ | refine rl_binF rfl ?_ | (refine rl_binB rfl ?_; intro _ _) | (refine rl_half rfl (by (try simp only [maxLen_eq, List.length_map, decide_eq_true_eq, decide_eq_false_iff_not] at *); omega) ?_) | (refine rl_binW rfl (by (try simp only [maxLen_eq, List.length_map, decide_eq_true_eq, decide_eq_false_iff_not] at *); omega) ?_) | refine bo_val rfl ?_)
          | (refine is_pk ?_; first | refine pk_twoT rfl rfl ?_ | refine pk_twoF rfl rfl ?_ | (refine pk_case rfl ?_ ?_ <;> (intro h; subst h)))
          | (refine is_ex ?_; first | (refine rl_extB rfl ?_; intro _ _) | refine ex_valn rfl (by (try simp only [nfA, Nat.reduceAdd]) <;> exact rfl) ?_)
          | (refine is_uo ?_; first | refine uo_val rfl ?_)
          | (refine is_sl ?_; first | refine sl_need rfl (by (try simp only [nfA, Nat.reduceAdd]) <;> exact rfl) ?_ ?_)
          | (refine is_bs ?_; first | refine bs_new rfl (by (try simp only [nfA, Nat.reduceAdd]) <;> exact rfl) ?_)
          | (refine is_bx ?_; first | refine bx_alloc rfl (by (try simp only [nfA, Nat.reduceAdd]) <;> exact rfl) ?_)
          | (refine is_bd ?_; first | refine bd_valn rfl (by (try simp only [nfA, Nat.reduceAdd]) <;> exact rfl) ?_)
          | (refine is_ia ?_; first | (refine ia_elt rfl ?_ (fun _ _ => ?_)))
          | (refine is_al ?_; first | refine al_alloc rfl (by (try simp only [nfA, Nat.reduceAdd]) <;> exact rfl) ?_)
          | (refine is_cf 60 ?_; first | refine cf (f60_calls ⟨vl, vh, vu, vr, vs, true, vo⟩ _) rfl ⟨.inl rfl, .inl rfl, trivial⟩ ?_ | refine cf (f60_calls ⟨vl, vh, vu, vr, vs, true, vo⟩ _) rfl ⟨(by first | exact .inl rfl | exact .inr (.inl rfl) | exact .inr (.inr ⟨_, _, rfl, rfl⟩)), (by first | exact .inl rfl | exact .inr (.inl rfl) | exact .inr (.inr ⟨_, _, rfl, rfl⟩)), trivial⟩ ?_)
          | (refine is_cf 73 ?_; first | refine cf (f73_calls [vs.take (placeE vs vo.key), vs.drop (placeE vs vo.key + 1)] (by simp; omega)) rfl ⟨.inl rfl, trivial⟩ ?_ | refine cf (f73_calls [vs.take (placeE vs vo.key), vs.drop (placeE vs vo.key + 1)] (by simp; omega)) rfl ⟨(by first | exact .inl rfl | exact .inr (.inl rfl) | exact .inr (.inr ⟨_, _, rfl, rfl⟩)), trivial⟩ ?_))
      | refine rl_nil ?_
      | (refine is_aw ?_; first
          | refine aw_seq ?_
          | refine aw_scope ?_
          | refine aw_reg rfl ?_
          | refine aw_draw rfl ?_
          | refine aw_condT rfl ?_
          | refine aw_condF rfl ?_
          | (refine aw_condN rfl ?_ ?_ <;> (intro h; subst h))
          | (refine aw_cond rfl ?_ ?_ <;> (intro h; subst h))
          | refine aw_skip ?_
          | refine aw_ret ?_
          | refine aw_exit ?_
          | refine aw_block ?_
          | refine aw_label ?_)
      | refine tq_n ?_
      | refine ng_n ?_
      | refine ng_r ?_
      | refine ng_x ?_
      | refine ⟨(rfl : regOk _ _ = true), ?_⟩
      | refine tq_r ?_
      | refine tq_x ?_
      | refine bq_n ?_
      | refine bq_x ?_
      | refine bq_r ?_
      | refine bq_o rfl ?_
      | refine fq_r rfl ?_
      | refine fq_n rfl ?_)
  all_goals (try simp only [List.length_map, decide_eq_true_eq, decide_eq_false_iff_not] at *)
  all_goals first
    | omega
    | (simp [normD, norm1, upI, ei, noHold, *]; done)
    | (simp_all [normD, norm1, upI, ei, noHold]; done)
  all_goals trace_state
theorem f75_calls_hold (v : IView) (r : Rec) (hk : r.kind = 10) (hh : v.held = false) (hs : v.ents.length ≤ 900000) : CallsD Try.prog 75 [.agg (ei v), .agg (ec r)] (.tup [.agg (ei (upI v r).1), .bool (upI v r).2]) := by
  refine CallsD_bd enter75 fun hbd => CallsD_of good mixed (fn := Try.f75) (by kernel_rfl) rfl enter75 (Nat.le_of_ble_eq_true rfl) ?_
  show AWp _ _ _ _ _ ⟨[(0, _), (1, _)], [], [], 0⟩
  have hp := placeE_le v.ents r.hold.key
  have hpl := placeE_lt (l := v.ents) (k := r.hold.key)
  obtain ⟨vl, vh, vu, vr, vs, vg, vo⟩ := v
  obtain ⟨k, rl, rh, ru, rr, rs, re, rk, rv, rp, rho, rne⟩ := r
  simp only at hk hs hh hp hpl
  subst hk hh
  repeat' (first
      | (refine is_cons ?_; first
          | (refine is_g ?_; first | refine rl_on rfl rfl ?_ | refine rl_off rfl rfl ?_ | refine rl_offU rfl ?_ | (refine rl_case rfl ?_ ?_ <;> (intro h; first | subst h | (simp only [Bool.not_eq_true', Bool.not_eq_false'] at h; subst h))))
          | (refine is_fa ?_; first | refine fa_valn rfl (by (try simp only [nfA, Nat.reduceAdd]) <;> exact rfl) ?_)
          | (refine is_ld ?_; first | refine ld_load rfl (by first | rfl | (repeat (first | exact lookM_hd | refine lookM_sl rfl ?_))) rfl (by (try simp only [nfA, Nat.reduceAdd]) <;> exact rfl) ?_ | refine ld_valn rfl (by (try simp only [nfA, Nat.reduceAdd]) <;> exact rfl) ?_)
          | (refine is_mv ?_; first | refine mv_val rfl ?_)
          | (refine is_as ?_; first | refine as_val rfl ?_ | refine as_new rfl rfl ?_)
          | (refine is_st ?_; first | refine st_store rfl (by first | rfl | (repeat (first | exact lookM_hd | refine lookM_sl rfl ?_))) rfl (by (try simp only [nfA, Nat.reduceAdd]) <;> exact rfl) ?_)
          | (refine is_bo ?_; first | refine rl_binT rfl ?_ | refine rl_binF rfl ?_ | (refine rl_binB rfl ?_; intro _ _) | (refine rl_half rfl (by (try simp only [maxLen_eq, List.length_map, decide_eq_true_eq, decide_eq_false_iff_not] at *); omega) ?_) | (refine rl_binW rfl (by (try simp only [maxLen_eq, List.length_map, decide_eq_true_eq, decide_eq_false_iff_not] at *); omega) ?_) | refine bo_val rfl ?_)
          | (refine is_pk ?_; first | refine pk_twoT rfl rfl ?_ | refine pk_twoF rfl rfl ?_ | (refine pk_case rfl ?_ ?_ <;> (intro h; subst h)))
          | (refine is_ex ?_; first | (refine rl_extB rfl ?_; intro _ _) | refine ex_valn rfl (by (try simp only [nfA, Nat.reduceAdd]) <;> exact rfl) ?_)
          | (refine is_uo ?_; first | refine uo_val rfl ?_)
          | (refine is_sl ?_; first | refine sl_need rfl (by (try simp only [nfA, Nat.reduceAdd]) <;> exact rfl) ?_ ?_)
          | (refine is_bs ?_; first | refine bs_new rfl (by (try simp only [nfA, Nat.reduceAdd]) <;> exact rfl) ?_)
          | (refine is_bx ?_; first | refine bx_alloc rfl (by (try simp only [nfA, Nat.reduceAdd]) <;> exact rfl) ?_)
          | (refine is_bd ?_; first | refine bd_valn rfl (by (try simp only [nfA, Nat.reduceAdd]) <;> exact rfl) ?_)
          | (refine is_ia ?_; first | (refine ia_elt rfl ?_ (fun _ _ => ?_)))
          | (refine is_al ?_; first | refine al_alloc rfl (by (try simp only [nfA, Nat.reduceAdd]) <;> exact rfl) ?_)
          | (refine is_cf 60 ?_; first | refine cf (f60_calls ⟨vl, vh, vu, vr, vs, false, vo⟩ _) rfl ⟨.inl rfl, .inl rfl, trivial⟩ ?_ | refine cf (f60_calls ⟨vl, vh, vu, vr, vs, false, vo⟩ _) rfl ⟨(by first | exact .inl rfl | exact .inr (.inl rfl) | exact .inr (.inr ⟨_, _, rfl, rfl⟩)), (by first | exact .inl rfl | exact .inr (.inl rfl) | exact .inr (.inr ⟨_, _, rfl, rfl⟩)), trivial⟩ ?_))
      | refine rl_nil ?_
      | (refine is_aw ?_; first
          | refine aw_seq ?_
          | refine aw_scope ?_
          | refine aw_reg rfl ?_
          | refine aw_draw rfl ?_
          | refine aw_condT rfl ?_
          | refine aw_condF rfl ?_
          | (refine aw_condN rfl ?_ ?_ <;> (intro h; subst h))
          | (refine aw_cond rfl ?_ ?_ <;> (intro h; subst h))
          | refine aw_skip ?_
          | refine aw_ret ?_
          | refine aw_exit ?_
          | refine aw_block ?_
          | refine aw_label ?_)
      | refine tq_n ?_
      | refine ng_n ?_
      | refine ng_r ?_
      | refine ng_x ?_
      | refine ⟨(rfl : regOk _ _ = true), ?_⟩
      | refine tq_r ?_
      | refine tq_x ?_
      | refine bq_n ?_
      | refine bq_x ?_
      | refine bq_r ?_
      | refine bq_o rfl ?_
      | refine fq_r rfl ?_
      | refine fq_n rfl ?_)
  · rename_i b hb h1
    simp only at h1
    simp [normD, norm1, upI, ei, h1]
  · rename_i b hb h1 h2
    simp only at h1
    simp [normD, norm1, upI, ei, h1, h2]
    simp only [maxLen_eq, List.length_map, decide_eq_true_eq, decide_eq_false_iff_not, Int.toNat_natCast, Bool.not_eq_true', Bool.not_eq_false', Bool.not_eq_true, Bool.not_eq_false] at *
    have : placeE vs rho.key = 0 := by omega
    simp [this]
  · rename_i b hb h1 h2
    simp only at h1
    have := hpl h1
    omega
  · rename_i b hb h1 h2 x hx h3
    simp only [Int.toNat_natCast] at h1 hx
    have e : vs.getD (placeE vs rho.key) default = x := by simp [List.getD, hx]
    simp only [maxLen_eq, List.length_map, decide_eq_true_eq, decide_eq_false_iff_not, Int.toNat_natCast, Bool.not_eq_true', Bool.not_eq_false', Bool.not_eq_true, Bool.not_eq_false] at *
    simp only [upI, h1, e]
    simp [normD, norm1, ei, h3]
  · simp only [maxLen_eq, List.length_map, decide_eq_true_eq, decide_eq_false_iff_not, Int.toNat_natCast, Bool.not_eq_true', Bool.not_eq_false', Bool.not_eq_true, Bool.not_eq_false] at *; omega
  · rename_i b hb h1 h2 x hx h3 y hy h4
    simp only [Int.toNat_natCast] at h1 hx
    have e : vs.getD (placeE vs rho.key) default = x := by simp [List.getD, hx]
    have e2 : ((placeE vs rho.key : Int) - 1).toNat = placeE vs rho.key - 1 := by omega
    rw [e2] at hy
    have e3 : vs.getD (placeE vs rho.key - 1) default = y := by simp [List.getD, hy]
    simp only [maxLen_eq, List.length_map, decide_eq_true_eq, decide_eq_false_iff_not, Int.toNat_natCast, Bool.not_eq_true', Bool.not_eq_false', Bool.not_eq_true, Bool.not_eq_false] at *
    simp only [upI, h1, e, e3]
    simp [normD, norm1, ei, h4]
  · rename_i b hb h1 h2 x hx h3 y hy h4
    simp only [Int.toNat_natCast] at h1 hx
    have e : vs.getD (placeE vs rho.key) default = x := by simp [List.getD, hx]
    have e2 : ((placeE vs rho.key : Int) - 1).toNat = placeE vs rho.key - 1 := by omega
    rw [e2] at hy
    have e3 : vs.getD (placeE vs rho.key - 1) default = y := by simp [List.getD, hy]
    simp only [maxLen_eq, List.length_map, decide_eq_true_eq, decide_eq_false_iff_not, Int.toNat_natCast, Bool.not_eq_true', Bool.not_eq_false', Bool.not_eq_true, Bool.not_eq_false] at *
    have h5 : ¬ placeE vs rho.key = 0 := by omega
    simp only [upI, h1, e, e3]
    simp [normD, norm1, ei, h3, h4, h5]
theorem f75_calls_none (v : IView) (r : Rec) (hn : ¬ (8 ≤ r.kind ∧ r.kind ≤ 10 ∧ v.held = false) ∧ ¬ (r.kind = 11 ∧ v.held = true)) (hs : v.ents.length ≤ 900000) : CallsD Try.prog 75 [.agg (ei v), .agg (ec r)] (.tup [.agg (ei (upI v r).1), .bool (upI v r).2]) := by
  refine CallsD_bd enter75 fun hbd => CallsD_of good mixed (fn := Try.f75) (by kernel_rfl) rfl enter75 (Nat.le_of_ble_eq_true rfl) ?_
  show AWp _ _ _ _ _ ⟨[(0, _), (1, _)], [], [], 0⟩
  obtain ⟨vl, vh, vu, vr, vs, vg, vo⟩ := v
  obtain ⟨k, rl, rh, ru, rr, rs, re, rk, rv, rp, rho, rne⟩ := r
  simp only at hs hn
  have e : upI ⟨vl, vh, vu, vr, vs, vg, vo⟩ ⟨k, rl, rh, ru, rr, rs, re, rk, rv, rp, rho, rne⟩ = (⟨vl, vh, vu, vr, vs, vg, vo⟩, false) := by
    unfold upI
    cases vg
    · simp only [and_true, Bool.false_eq_true, and_false, not_false_eq_true] at hn ⊢
      rw [if_neg (by omega), if_neg (by omega), if_neg (by omega), if_neg (by simp)]
    · simp only [and_true, Bool.true_eq_false, and_false, not_false_eq_true, true_and, if_false] at hn ⊢
      rw [if_neg hn]
  rw [e]
  repeat' (first
      | (refine is_cons ?_; first
          | (refine is_g ?_; first | refine rl_on rfl rfl ?_ | refine rl_off rfl rfl ?_ | refine rl_offU rfl ?_ | (refine rl_case rfl ?_ ?_ <;> (intro h; first | subst h | (simp only [Bool.not_eq_true', Bool.not_eq_false'] at h; subst h))))
          | (refine is_fa ?_; first | refine fa_valn rfl (by (try simp only [nfA, Nat.reduceAdd]) <;> exact rfl) ?_)
          | (refine is_ld ?_; first | refine ld_load rfl (by first | rfl | (repeat (first | exact lookM_hd | refine lookM_sl rfl ?_))) rfl (by (try simp only [nfA, Nat.reduceAdd]) <;> exact rfl) ?_ | refine ld_valn rfl (by (try simp only [nfA, Nat.reduceAdd]) <;> exact rfl) ?_)
          | (refine is_mv ?_; first | refine mv_val rfl ?_)
          | (refine is_as ?_; first | refine as_val rfl ?_ | refine as_new rfl rfl ?_)
          | (refine is_st ?_; first | refine st_store rfl (by first | rfl | (repeat (first | exact lookM_hd | refine lookM_sl rfl ?_))) rfl (by (try simp only [nfA, Nat.reduceAdd]) <;> exact rfl) ?_)
          | (refine is_bo ?_; first | refine rl_binT rfl ?_ | refine rl_binF rfl ?_ | (refine rl_binB rfl ?_; intro _ _) | (refine rl_half rfl (by (try simp only [maxLen_eq, List.length_map, decide_eq_true_eq, decide_eq_false_iff_not] at *); omega) ?_) | (refine rl_binW rfl (by (try simp only [maxLen_eq, List.length_map, decide_eq_true_eq, decide_eq_false_iff_not] at *); omega) ?_) | refine bo_val rfl ?_)
          | (refine is_pk ?_; first | refine pk_twoT rfl rfl ?_ | refine pk_twoF rfl rfl ?_ | (refine pk_case rfl ?_ ?_ <;> (intro h; subst h)))
          | (refine is_ex ?_; first | (refine rl_extB rfl ?_; intro _ _) | refine ex_valn rfl (by (try simp only [nfA, Nat.reduceAdd]) <;> exact rfl) ?_)
          | (refine is_uo ?_; first | refine uo_val rfl ?_)
          | (refine is_sl ?_; first | refine sl_need rfl (by (try simp only [nfA, Nat.reduceAdd]) <;> exact rfl) ?_ ?_)
          | (refine is_bs ?_; first | refine bs_new rfl (by (try simp only [nfA, Nat.reduceAdd]) <;> exact rfl) ?_)
          | (refine is_bx ?_; first | refine bx_alloc rfl (by (try simp only [nfA, Nat.reduceAdd]) <;> exact rfl) ?_)
          | (refine is_bd ?_; first | refine bd_valn rfl (by (try simp only [nfA, Nat.reduceAdd]) <;> exact rfl) ?_)
          | (refine is_ia ?_; first | (refine ia_elt rfl ?_ (fun _ _ => ?_)))
          | (refine is_al ?_; first | refine al_alloc rfl (by (try simp only [nfA, Nat.reduceAdd]) <;> exact rfl) ?_)
          | (refine is_cf 60 ?_; first | refine cf (f60_calls ⟨vl, vh, vu, vr, vs, _, vo⟩ _) rfl ⟨.inl rfl, .inl rfl, trivial⟩ ?_ | refine cf (f60_calls ⟨vl, vh, vu, vr, vs, _, vo⟩ _) rfl ⟨(by first | exact .inl rfl | exact .inr (.inl rfl) | exact .inr (.inr ⟨_, _, rfl, rfl⟩)), (by first | exact .inl rfl | exact .inr (.inl rfl) | exact .inr (.inr ⟨_, _, rfl, rfl⟩)), trivial⟩ ?_))
      | refine rl_nil ?_
      | (refine is_aw ?_; first
          | refine aw_seq ?_
          | refine aw_scope ?_
          | refine aw_reg rfl ?_
          | refine aw_draw rfl ?_
          | refine aw_condT rfl ?_
          | refine aw_condF rfl ?_
          | (refine aw_condN rfl ?_ ?_ <;> (intro h; subst h))
          | (refine aw_cond rfl ?_ ?_ <;> (intro h; subst h))
          | refine aw_skip ?_
          | refine aw_ret ?_
          | refine aw_exit ?_
          | refine aw_block ?_
          | refine aw_label ?_)
      | refine tq_n ?_
      | refine ng_n ?_
      | refine ng_r ?_
      | refine ng_x ?_
      | refine ⟨(rfl : regOk _ _ = true), ?_⟩
      | refine tq_r ?_
      | refine tq_x ?_
      | refine bq_n ?_
      | refine bq_x ?_
      | refine bq_r ?_
      | refine bq_o rfl ?_
      | refine fq_r rfl ?_
      | refine fq_n rfl ?_)
  all_goals first
    | (simp [normD, norm1, ei]; done)
    | (exfalso
       simp only [and_true, Bool.false_eq_true, Bool.true_eq_false, and_false, not_false_eq_true, true_and, decide_eq_true_eq, decide_eq_false_iff_not] at *
       omega)
end Go.Proofs.Ytehhgamkijkjgaa.AM.TT
