/- Contracts of the functions and their models, by the abstract machine. -/
import Derived.Test.YtbeafnkcimfeeaaDoorPfH6
namespace Go.Proofs.YtbeafnkcimfeeaaDoor.AM.TT
set_option linter.unusedVariables false
set_option linter.unusedSimpArgs false
open Go Go.Proofs.YtbeafnkcimfeeaaDoor.AM Go.Proofs
set_option linter.unusedSimpArgs false
set_option linter.unusedVariables false
attribute [local irreducible] RunL AWp StepK OpK thenQ blockQ noGotoQ fnQ fnEQ
theorem f35_all (v : LView) (r : Rec) (hs : v.rows.length + r.rows.length ≤ 999999) : CallsD Tryd.prog 35 [.agg (ev v), .agg (ec r)] (.tup [.agg (ev (upV v r).1), .bool (upV v r).2]) := by
  by_cases h2 : r.kind = 2
  · exact f35_calls_put v r h2 (by omega)
  by_cases h3 : r.kind = 3
  · exact f35_calls_del v r h3 (by omega)
  by_cases h4 : r.kind = 4
  · exact f35_calls_split v r h4 (by omega)
  by_cases h5 : r.kind = 5
  · exact f35_calls_gone v r h5
  by_cases h6 : r.kind = 6
  · exact f35_calls_merge v r h6 hs
  rw [upV_none h2 h3 h4 h5 h6]
  exact f35_calls_none v r h2 h3 h4 h5 h6
def encF (x : Except Int LView) : DV := match x with | .ok w => .tup [.agg (ev w), .nilI] | .error c => .tup [.agg (ev noView), EE c]
abbrev zeroV : List PV := [.dat (.str []), .dat (.str []), .dat (.bool false), .dat (I 0), .dat (.nil 2), .dat (.bool false)]
abbrev pv (l : List DV) : List PV := l.map .dat
theorem enter10 : EnterOk Tryd.prog 10 := EnterOk_of (fn := Tryd.f10) (by kernel_rfl) (by kernel_rfl) (by kernel_rfl)
theorem f10_calls (l : List Rec) (hs : szL l l.length ≤ 900000) : CallsD Tryd.prog 10 [.lst 15 (ecs l)] (encF (foldL l)) := by
  refine CallsD_bd enter10 fun hbd => CallsD_of good mixed (fn := Tryd.f10) (by kernel_rfl) rfl enter10 (Nat.le_of_ble_eq_true rfl) ?_
  show AWp _ _ _ _ _ ⟨[(0, _)], [], [], 0⟩
  have hln := szL_len l
  repeat' (first | (refine is_cons ?_; first | (refine is_g ?_; first | refine rl_on rfl rfl ?_ | refine rl_off rfl rfl ?_ | refine rl_offU rfl ?_ | (refine rl_case rfl ?_ ?_ <;> (intro h; first | subst h | (simp only [Bool.not_eq_true', Bool.not_eq_false'] at h; subst h)))) | (refine is_mv ?_; first | refine mv_val rfl ?_) | (refine is_ld ?_; first | refine ld_load rfl (by first | rfl | (repeat (first | exact lookM_hd | refine lookM_sl rfl ?_))) rfl (by (try simp only [nfA, T_md, Nat.reduceAdd]) <;> apply rfl) ?_ | refine ld_valn rfl (by (try simp only [nfA, T_md, Nat.reduceAdd]) <;> apply rfl) ?_) | (refine is_as ?_; first | refine as_val rfl ?_ | refine as_new rfl rfl ?_) | (refine is_bo ?_; first | refine rl_binT rfl ?_ | refine rl_binF rfl ?_ | (refine rl_binB rfl ?_; intro _ _) | (refine rl_half rfl (by (try simp only [maxLen_eq, List.length_map, decide_eq_true_eq, decide_eq_false_iff_not] at *); omega) ?_) | (refine rl_binW rfl (by (try simp only [maxLen_eq, List.length_map, decide_eq_true_eq, decide_eq_false_iff_not] at *); omega) ?_) | refine bo_val rfl ?_) | (refine is_fa ?_; first | refine fa_valn rfl (by (try simp only [nfA, T_md, Nat.reduceAdd]) <;> apply rfl) ?_) | (refine is_st ?_; first | refine st_store rfl (by first | rfl | (repeat (first | exact lookM_hd | refine lookM_sl rfl ?_))) rfl (by (try simp only [nfA, T_md, Nat.reduceAdd]) <;> apply rfl) ?_) | (refine is_bd ?_; first | refine bd_valn rfl (by (try simp only [nfA, T_md, Nat.reduceAdd]) <;> apply rfl) ?_) | (refine is_al ?_; first | refine al_alloc rfl (by (try simp only [nfA, T_md, Nat.reduceAdd]) <;> apply rfl) ?_) | (refine is_ia ?_; first | (refine ia_elt rfl ?_ (fun _ _ => ?_))) | (refine is_mi ?_; first | refine mi_val rfl ?_) | (refine is_ex ?_; first | (refine rl_extB rfl ?_; intro _ _) | refine ex_valn rfl (by (try simp only [nfA, T_md, Nat.reduceAdd]) <;> apply rfl) ?_) | (refine is_pk ?_; first | refine pk_twoT rfl rfl ?_ | refine pk_twoF rfl rfl ?_ | (refine pk_case rfl ?_ ?_ <;> (intro h; subst h))) | (refine is_uo ?_; first | refine uo_val rfl ?_) | (refine is_bi ?_; first | (refine bi_gated rfl (by (try simp only [nfA, T_md, Nat.reduceAdd]) <;> apply rfl) ?_; intro _) | refine bi_val rfl ?_ | refine bi_own rfl (by first | rfl | (repeat (first | exact lookB_hd | refine lookB_sl rfl ?_))) ?_ ?_ | refine bi_needN rfl ?_ ?_)) | refine rl_nil ?_ | (refine is_aw ?_; first | refine aw_seq ?_ | refine aw_scope ?_ | refine aw_reg rfl ?_ | refine aw_draw rfl ?_ | refine aw_condT rfl ?_ | refine aw_condF rfl ?_ | (refine aw_condN rfl ?_ ?_ <;> (intro h; subst h)) | (refine aw_cond rfl ?_ ?_ <;> (intro h; subst h)) | refine aw_skip ?_ | refine aw_ret ?_ | refine aw_exit ?_ | refine aw_block ?_ | refine aw_label ?_) | refine tq_n ?_ | refine ng_n ?_ | refine ng_r ?_ | refine ng_x ?_ | refine ⟨(rfl : regOk _ _ = true), ?_⟩ | refine tq_r ?_ | refine tq_x ?_ | refine bq_n ?_ | refine bq_x ?_ | refine bq_r ?_ | refine bq_o rfl ?_ | refine fq_r rfl ?_ | refine fq_n rfl ?_)
  refine aw_loopX (fun (n : Nat) e => ⟨[(13, .dat (I n)), (12, .dat (I l.length)), (11, .dat (.lst 15 (ecs l))), (0, .dat (.lst 15 (ecs l))), (2, .ptr (2, 0, 1) 0)], [((2, 0, 1), zeroV)], [], e⟩) (fun n => n ≤ l.length ∧ ∀ j, j < n → kindL (l.getD j default) = true) (fun n => l.length - n) 0 _ (le_of ⟨rfl, rfl, rfl, rfl, rfl, trivial⟩ ⟨rfl, trivial⟩ trivial (Nat.le_refl _)) (by simp) ?_
  rintro n e ⟨hn, hk⟩
  repeat' (first | (refine is_cons ?_; first | (refine is_g ?_; first | refine rl_on rfl rfl ?_ | refine rl_off rfl rfl ?_ | refine rl_offU rfl ?_ | (refine rl_case rfl ?_ ?_ <;> (intro h; first | subst h | (simp only [Bool.not_eq_true', Bool.not_eq_false'] at h; subst h)))) | (refine is_mv ?_; first | refine mv_val rfl ?_) | (refine is_ld ?_; first | refine ld_load rfl (by first | rfl | (repeat (first | exact lookM_hd | refine lookM_sl rfl ?_))) rfl (by (try simp only [nfA, T_md, Nat.reduceAdd]) <;> apply rfl) ?_ | refine ld_valn rfl (by (try simp only [nfA, T_md, Nat.reduceAdd]) <;> apply rfl) ?_) | (refine is_as ?_; first | refine as_val rfl ?_ | refine as_new rfl rfl ?_) | (refine is_bo ?_; first | refine rl_binT rfl ?_ | refine rl_binF rfl ?_ | (refine rl_binB rfl ?_; intro _ _) | (refine rl_half rfl (by (try simp only [maxLen_eq, List.length_map, decide_eq_true_eq, decide_eq_false_iff_not] at *); omega) ?_) | (refine rl_binW rfl (by (try simp only [maxLen_eq, List.length_map, decide_eq_true_eq, decide_eq_false_iff_not] at *); omega) ?_) | refine bo_val rfl ?_) | (refine is_fa ?_; first | refine fa_valn rfl (by (try simp only [nfA, T_md, Nat.reduceAdd]) <;> apply rfl) ?_) | (refine is_st ?_; first | refine st_store rfl (by first | rfl | (repeat (first | exact lookM_hd | refine lookM_sl rfl ?_))) rfl (by (try simp only [nfA, T_md, Nat.reduceAdd]) <;> apply rfl) ?_) | (refine is_bd ?_; first | refine bd_valn rfl (by (try simp only [nfA, T_md, Nat.reduceAdd]) <;> apply rfl) ?_) | (refine is_al ?_; first | refine al_alloc rfl (by (try simp only [nfA, T_md, Nat.reduceAdd]) <;> apply rfl) ?_) | (refine is_ia ?_; first | (refine ia_elt rfl ?_ (fun _ _ => ?_))) | (refine is_mi ?_; first | refine mi_val rfl ?_) | (refine is_ex ?_; first | (refine rl_extB rfl ?_; intro _ _) | refine ex_valn rfl (by (try simp only [nfA, T_md, Nat.reduceAdd]) <;> apply rfl) ?_) | (refine is_pk ?_; first | refine pk_twoT rfl rfl ?_ | refine pk_twoF rfl rfl ?_ | (refine pk_case rfl ?_ ?_ <;> (intro h; subst h))) | (refine is_uo ?_; first | refine uo_val rfl ?_) | (refine is_bi ?_; first | (refine bi_gated rfl (by (try simp only [nfA, T_md, Nat.reduceAdd]) <;> apply rfl) ?_; intro _) | refine bi_val rfl ?_ | refine bi_own rfl (by first | rfl | (repeat (first | exact lookB_hd | refine lookB_sl rfl ?_))) ?_ ?_ | refine bi_needN rfl ?_ ?_)) | refine rl_nil ?_ | (refine is_aw ?_; first | refine aw_seq ?_ | refine aw_scope ?_ | refine aw_reg rfl ?_ | refine aw_draw rfl ?_ | refine aw_condT rfl ?_ | refine aw_condF rfl ?_ | (refine aw_condN rfl ?_ ?_ <;> (intro h; subst h)) | (refine aw_cond rfl ?_ ?_ <;> (intro h; subst h)) | refine aw_skip ?_ | refine aw_ret ?_ | refine aw_exit ?_ | refine aw_block ?_ | refine aw_label ?_) | refine tq_n ?_ | refine ng_n ?_ | refine ng_r ?_ | refine ng_x ?_ | refine ⟨(rfl : regOk _ _ = true), ?_⟩ | refine tq_r ?_ | refine tq_x ?_ | refine bq_n ?_ | refine bq_x ?_ | refine bq_r ?_ | refine bq_o rfl ?_ | refine fq_r rfl ?_ | refine fq_n rfl ?_)
  · simp only [maxLen_eq, List.length_map, decide_eq_true_eq, decide_eq_false_iff_not, Int.toNat_natCast, Bool.not_eq_true', Bool.not_eq_false', Bool.not_eq_true, Bool.not_eq_false] at *; omega
  · rename_i hl x hx hc
    simp only [maxLen_eq, List.length_map, decide_eq_true_eq, decide_eq_false_iff_not, Int.toNat_natCast, Bool.not_eq_true', Bool.not_eq_false', Bool.not_eq_true, Bool.not_eq_false] at *
    have : foldL l = .error 9 := foldL_kind hx (by simp [kindL]; omega)
    rw [this]; rfl
  · rename_i hl x hx hc hd
    simp only [maxLen_eq, List.length_map, decide_eq_true_eq, decide_eq_false_iff_not, Int.toNat_natCast, Bool.not_eq_true', Bool.not_eq_false', Bool.not_eq_true, Bool.not_eq_false] at *
    have : foldL l = .error 9 := foldL_kind hx (by simp [kindL]; omega)
    rw [this]; rfl
  · rename_i hl x hx hc hd
    simp only [maxLen_eq, List.length_map, decide_eq_true_eq, decide_eq_false_iff_not, Int.toNat_natCast, Bool.not_eq_true', Bool.not_eq_false', Bool.not_eq_true, Bool.not_eq_false] at *
    refine ⟨n + 1, _, by omega, le_of ⟨rfl, rfl, rfl, rfl, rfl, trivial⟩ ⟨lookM_sl rfl (lookM_sl rfl lookM_hd), trivial⟩ trivial (Nat.le_refl _), by omega, fun j hj => ?_⟩
    rcases Nat.lt_or_ge j n with q | q
    · exact hk j q
    · obtain rfl : j = n := by omega
      have hx' : l.getD j default = x := by simp [List.getD, hx]
      rw [hx']
      simp [kindL]; omega
  · rename_i hl _ hc
    simp only [maxLen_eq, List.length_map, decide_eq_true_eq, decide_eq_false_iff_not, Int.toNat_natCast, Bool.not_eq_true', Bool.not_eq_false', Bool.not_eq_true, Bool.not_eq_false] at *
    have : foldL l = .error 10 := by
      have : l = [] := List.length_eq_zero_iff.1 (by omega)
      subst this; rfl
    rw [this]; rfl
  · simp only [maxLen_eq, List.length_map, decide_eq_true_eq, decide_eq_false_iff_not, Int.toNat_natCast, Bool.not_eq_true', Bool.not_eq_false', Bool.not_eq_true, Bool.not_eq_false] at *; omega
  · rename_i hl _ hc b hb hd
    simp only [maxLen_eq, List.length_map, decide_eq_true_eq, decide_eq_false_iff_not, Int.toNat_natCast, Bool.not_eq_true', Bool.not_eq_false', Bool.not_eq_true, Bool.not_eq_false] at *
    have hall : ∀ j, j < l.length → kindL (l.getD j default) = true := fun j hj => hk j (by omega)
    have ee1 : ((l.length : Int) - 1).toNat = l.length - 1 := by omega
    rw [ee1] at hb
    have : foldL l = .error 10 := by
      rw [foldL_all hall hb, if_neg hd]
    rw [this]; rfl
  · simp only [maxLen_eq, List.length_map, decide_eq_true_eq, decide_eq_false_iff_not, Int.toNat_natCast, Bool.not_eq_true', Bool.not_eq_false', Bool.not_eq_true, Bool.not_eq_false] at *; omega
  · rename_i hl _ hc b hb hd b2 hb2
    simp only [maxLen_eq, List.length_map, decide_eq_true_eq, decide_eq_false_iff_not, Int.toNat_natCast, Bool.not_eq_true', Bool.not_eq_false', Bool.not_eq_true, Bool.not_eq_false] at *
    have hall : ∀ j, j < l.length → kindL (l.getD j default) = true := fun j hj => hk j (by omega)
    have ee1 : ((l.length : Int) - 1).toNat = l.length - 1 := by omega
    rw [ee1] at hb hb2
    rw [hb] at hb2
    obtain rfl := Option.some.inj hb2
    have hfold := foldL_all hall hb
    rw [if_pos hd] at hfold
    have hbl : szL l (l.length - 1) + (b.rows.length + 1) ≤ 900000 := by
      have := szL_succ hb
      have e2 : l.length - 1 + 1 = l.length := by omega
      rw [e2] at this
      omega
    repeat' (first | (refine is_cons ?_; first | (refine is_g ?_; first | refine rl_on rfl rfl ?_ | refine rl_off rfl rfl ?_ | refine rl_offU rfl ?_ | (refine rl_case rfl ?_ ?_ <;> (intro h; first | subst h | (simp only [Bool.not_eq_true', Bool.not_eq_false'] at h; subst h)))) | (refine is_mv ?_; first | refine mv_val rfl ?_) | (refine is_ld ?_; first | refine ld_load rfl (by first | rfl | (repeat (first | exact lookM_hd | refine lookM_sl rfl ?_))) rfl (by (try simp only [nfA, T_md, Nat.reduceAdd]) <;> apply rfl) ?_ | refine ld_valn rfl (by (try simp only [nfA, T_md, Nat.reduceAdd]) <;> apply rfl) ?_) | (refine is_as ?_; first | refine as_val rfl ?_ | refine as_new rfl rfl ?_) | (refine is_bo ?_; first | refine rl_binT rfl ?_ | refine rl_binF rfl ?_ | (refine rl_binB rfl ?_; intro _ _) | (refine rl_half rfl (by (try simp only [maxLen_eq, List.length_map, decide_eq_true_eq, decide_eq_false_iff_not] at *); omega) ?_) | (refine rl_binW rfl (by (try simp only [maxLen_eq, List.length_map, decide_eq_true_eq, decide_eq_false_iff_not] at *); omega) ?_) | refine bo_val rfl ?_) | (refine is_fa ?_; first | refine fa_valn rfl (by (try simp only [nfA, T_md, Nat.reduceAdd]) <;> apply rfl) ?_) | (refine is_st ?_; first | refine st_store rfl (by first | rfl | (repeat (first | exact lookM_hd | refine lookM_sl rfl ?_))) rfl (by (try simp only [nfA, T_md, Nat.reduceAdd]) <;> apply rfl) ?_) | (refine is_bd ?_; first | refine bd_valn rfl (by (try simp only [nfA, T_md, Nat.reduceAdd]) <;> apply rfl) ?_) | (refine is_al ?_; first | refine al_alloc rfl (by (try simp only [nfA, T_md, Nat.reduceAdd]) <;> apply rfl) ?_) | (refine is_ia ?_; first | (refine ia_elt rfl ?_ (fun _ _ => ?_))) | (refine is_mi ?_; first | refine mi_val rfl ?_) | (refine is_ex ?_; first | (refine rl_extB rfl ?_; intro _ _) | refine ex_valn rfl (by (try simp only [nfA, T_md, Nat.reduceAdd]) <;> apply rfl) ?_) | (refine is_pk ?_; first | refine pk_twoT rfl rfl ?_ | refine pk_twoF rfl rfl ?_ | (refine pk_case rfl ?_ ?_ <;> (intro h; subst h))) | (refine is_uo ?_; first | refine uo_val rfl ?_) | (refine is_bi ?_; first | (refine bi_gated rfl (by (try simp only [nfA, T_md, Nat.reduceAdd]) <;> apply rfl) ?_; intro _) | refine bi_val rfl ?_ | refine bi_own rfl (by first | rfl | (repeat (first | exact lookB_hd | refine lookB_sl rfl ?_))) ?_ ?_ | refine bi_needN rfl ?_ ?_) | (refine is_cf 32 ?_; first | refine cf (f32_calls _ (by omega)) rfl ⟨.inl rfl, trivial⟩ ?_ | refine cf (f32_calls _ (by omega)) rfl ⟨(by first | exact .inl rfl | exact .inr (.inl rfl) | exact .inr (.inr ⟨_, _, rfl, rfl⟩)), trivial⟩ ?_) | (refine is_cf 34 ?_; first | refine cf (f34_calls (baseV b)) rfl ⟨.inl rfl, trivial⟩ ?_ | refine cf (f34_calls (baseV b)) rfl ⟨(by first | exact .inl rfl | exact .inr (.inl rfl) | exact .inr (.inr ⟨_, _, rfl, rfl⟩)), trivial⟩ ?_) | (refine is_cf 33 ?_; first | (refine cfB (f33_calls _ _ _ _ (by omega)) rfl ⟨.inl rfl, .inl rfl, trivial⟩ ?_; intro _ _) | (refine cfB (f33_calls _ _ _ _ (by omega)) rfl ⟨(by first | exact .inl rfl | exact .inr (.inl rfl) | exact .inr (.inr ⟨_, _, rfl, rfl⟩)), (by first | exact .inl rfl | exact .inr (.inl rfl) | exact .inr (.inr ⟨_, _, rfl, rfl⟩)), trivial⟩ ?_; intro _ _))) | refine rl_nil ?_ | (refine is_aw ?_; first | refine aw_seq ?_ | refine aw_scope ?_ | refine aw_reg rfl ?_ | refine aw_draw rfl ?_ | refine aw_condT rfl ?_ | refine aw_condF rfl ?_ | (refine aw_condN rfl ?_ ?_ <;> (intro h; subst h)) | (refine aw_cond rfl ?_ ?_ <;> (intro h; subst h)) | refine aw_skip ?_ | refine aw_ret ?_ | refine aw_exit ?_ | refine aw_block ?_ | refine aw_label ?_) | refine tq_n ?_ | refine ng_n ?_ | refine ng_r ?_ | refine ng_x ?_ | refine ⟨(rfl : regOk _ _ = true), ?_⟩ | refine tq_r ?_ | refine tq_x ?_ | refine bq_n ?_ | refine bq_x ?_ | refine bq_r ?_ | refine bq_o rfl ?_ | refine fq_r rfl ?_ | refine fq_n rfl ?_)
    · rename_i hsd
      have hsd : soundL b.rows b.low b.high b.unb = false := hsd
      rw [hfold, hsd]
      rfl
    · rename_i hsd
      have hsd : soundL b.rows b.low b.high b.unb = true := hsd
      rw [if_pos hsd] at hfold
      refine aw_loopX (fun (x : Nat × LView) e' => ⟨[(9, .dat (I ((x.1 : Int) - 1))), (8, .ptr (8, 0, e + 1 + 1 + 1 + 1 + 1) 0), (0, .dat (.lst 15 (ecs l))), (2, .ptr (2, 0, 1) 0)], [((8, 0, e + 1 + 1 + 1 + 1 + 1), pv (ev x.2)), ((2, 0, 1), zeroV)], [], e'⟩)
        (fun x => x.1 ≤ l.length - 1 ∧ x.2.rows.length + szL l x.1 ≤ 900000 ∧ goUp l x.1 x.2 = goUp l (l.length - 1) (baseV b)) (fun x => x.1) (l.length - 1, baseV b) _
        (le_of ⟨?_, rfl, rfl, rfl, trivial⟩ ⟨lookM_hd, lookM_sl rfl (lookM_sl rfl (lookM_sl rfl (lookM_sl rfl lookM_hd))), trivial⟩ trivial (Nat.le_refl _)) ⟨Nat.le_refl _, by simp only [baseV]; omega, rfl⟩ ?_
      · have e3 : ((l.length - 1 : Nat) : Int) - 1 = (l.length : Int) - 1 - 1 := by omega
        dsimp only
        rw [e3]; rfl
      rintro ⟨m, v⟩ e' ⟨hm, hv, hg⟩
      dsimp only at hm hv hg ⊢
      repeat' (first | (refine is_cons ?_; first | (refine is_g ?_; first | refine rl_on rfl rfl ?_ | refine rl_off rfl rfl ?_ | refine rl_offU rfl ?_ | (refine rl_case rfl ?_ ?_ <;> (intro h; first | subst h | (simp only [Bool.not_eq_true', Bool.not_eq_false'] at h; subst h)))) | (refine is_mv ?_; first | refine mv_val rfl ?_) | (refine is_ld ?_; first | refine ld_load rfl (by first | rfl | (repeat (first | exact lookM_hd | refine lookM_sl rfl ?_))) rfl (by (try simp only [nfA, T_md, Nat.reduceAdd]) <;> apply rfl) ?_ | refine ld_valn rfl (by (try simp only [nfA, T_md, Nat.reduceAdd]) <;> apply rfl) ?_) | (refine is_as ?_; first | refine as_val rfl ?_ | refine as_new rfl rfl ?_) | (refine is_bo ?_; first | refine rl_binT rfl ?_ | refine rl_binF rfl ?_ | (refine rl_binB rfl ?_; intro _ _) | (refine rl_half rfl (by (try simp only [maxLen_eq, List.length_map, decide_eq_true_eq, decide_eq_false_iff_not] at *); omega) ?_) | (refine rl_binW rfl (by (try simp only [maxLen_eq, List.length_map, decide_eq_true_eq, decide_eq_false_iff_not] at *); omega) ?_) | refine bo_val rfl ?_) | (refine is_fa ?_; first | refine fa_valn rfl (by (try simp only [nfA, T_md, Nat.reduceAdd]) <;> apply rfl) ?_) | (refine is_st ?_; first | refine st_store rfl (by first | rfl | (repeat (first | exact lookM_hd | refine lookM_sl rfl ?_))) rfl (by (try simp only [nfA, T_md, Nat.reduceAdd]) <;> apply rfl) ?_) | (refine is_bd ?_; first | refine bd_valn rfl (by (try simp only [nfA, T_md, Nat.reduceAdd]) <;> apply rfl) ?_) | (refine is_al ?_; first | refine al_alloc rfl (by (try simp only [nfA, T_md, Nat.reduceAdd]) <;> apply rfl) ?_) | (refine is_ia ?_; first | (refine ia_elt rfl ?_ (fun _ _ => ?_))) | (refine is_mi ?_; first | refine mi_val rfl ?_) | (refine is_ex ?_; first | (refine rl_extB rfl ?_; intro _ _) | refine ex_valn rfl (by (try simp only [nfA, T_md, Nat.reduceAdd]) <;> apply rfl) ?_) | (refine is_pk ?_; first | refine pk_twoT rfl rfl ?_ | refine pk_twoF rfl rfl ?_ | (refine pk_case rfl ?_ ?_ <;> (intro h; subst h))) | (refine is_uo ?_; first | refine uo_val rfl ?_) | (refine is_bi ?_; first | (refine bi_gated rfl (by (try simp only [nfA, T_md, Nat.reduceAdd]) <;> apply rfl) ?_; intro _) | refine bi_val rfl ?_ | refine bi_own rfl (by first | rfl | (repeat (first | exact lookB_hd | refine lookB_sl rfl ?_))) ?_ ?_ | refine bi_needN rfl ?_ ?_)) | refine rl_nil ?_ | (refine is_aw ?_; first | refine aw_seq ?_ | refine aw_scope ?_ | refine aw_reg rfl ?_ | refine aw_draw rfl ?_ | refine aw_condT rfl ?_ | refine aw_condF rfl ?_ | (refine aw_condN rfl ?_ ?_ <;> (intro h; subst h)) | (refine aw_cond rfl ?_ ?_ <;> (intro h; subst h)) | refine aw_skip ?_ | refine aw_ret ?_ | refine aw_exit ?_ | refine aw_block ?_ | refine aw_label ?_) | refine tq_n ?_ | refine ng_n ?_ | refine ng_r ?_ | refine ng_x ?_ | refine ⟨(rfl : regOk _ _ = true), ?_⟩ | refine tq_r ?_ | refine tq_x ?_ | refine bq_n ?_ | refine bq_x ?_ | refine bq_r ?_ | refine bq_o rfl ?_ | refine fq_r rfl ?_ | refine fq_n rfl ?_)
      · simp only [maxLen_eq, List.length_map, decide_eq_true_eq, decide_eq_false_iff_not, Int.toNat_natCast, Bool.not_eq_true', Bool.not_eq_false', Bool.not_eq_true, Bool.not_eq_false] at *; omega
      · rename_i hm0 x hx
        simp only [maxLen_eq, List.length_map, decide_eq_true_eq, decide_eq_false_iff_not, Int.toNat_natCast, Bool.not_eq_true', Bool.not_eq_false', Bool.not_eq_true, Bool.not_eq_false] at *
        obtain ⟨k, rfl⟩ : ∃ k, m = k + 1 := ⟨m - 1, by omega⟩
        have e4 : (((k + 1 : Nat) : Int) - 1).toNat = k := by omega
        rw [e4] at hx
        have hx' : l.getD k default = x := by simp [List.getD, hx]
        have hz := szL_succ hx
        have hlen := upV_len v x
        rw [goUp, hx'] at hg
        refine rl_call (f35_all v x (by omega)) rfl rfl rfl ⟨.inl rfl, .inl rfl, trivial⟩ ?_
        repeat' (first | (refine is_cons ?_; first | (refine is_g ?_; first | refine rl_on rfl rfl ?_ | refine rl_off rfl rfl ?_ | refine rl_offU rfl ?_ | (refine rl_case rfl ?_ ?_ <;> (intro h; first | subst h | (simp only [Bool.not_eq_true', Bool.not_eq_false'] at h; subst h)))) | (refine is_mv ?_; first | refine mv_val rfl ?_) | (refine is_ld ?_; first | refine ld_load rfl (by first | rfl | (repeat (first | exact lookM_hd | refine lookM_sl rfl ?_))) rfl (by (try simp only [nfA, T_md, Nat.reduceAdd]) <;> apply rfl) ?_ | refine ld_valn rfl (by (try simp only [nfA, T_md, Nat.reduceAdd]) <;> apply rfl) ?_) | (refine is_as ?_; first | refine as_val rfl ?_ | refine as_new rfl rfl ?_) | (refine is_bo ?_; first | refine rl_binT rfl ?_ | refine rl_binF rfl ?_ | (refine rl_binB rfl ?_; intro _ _) | (refine rl_half rfl (by (try simp only [maxLen_eq, List.length_map, decide_eq_true_eq, decide_eq_false_iff_not] at *); omega) ?_) | (refine rl_binW rfl (by (try simp only [maxLen_eq, List.length_map, decide_eq_true_eq, decide_eq_false_iff_not] at *); omega) ?_) | refine bo_val rfl ?_) | (refine is_fa ?_; first | refine fa_valn rfl (by (try simp only [nfA, T_md, Nat.reduceAdd]) <;> apply rfl) ?_) | (refine is_st ?_; first | refine st_store rfl (by first | rfl | (repeat (first | exact lookM_hd | refine lookM_sl rfl ?_))) rfl (by (try simp only [nfA, T_md, Nat.reduceAdd]) <;> apply rfl) ?_) | (refine is_bd ?_; first | refine bd_valn rfl (by (try simp only [nfA, T_md, Nat.reduceAdd]) <;> apply rfl) ?_) | (refine is_al ?_; first | refine al_alloc rfl (by (try simp only [nfA, T_md, Nat.reduceAdd]) <;> apply rfl) ?_) | (refine is_ia ?_; first | (refine ia_elt rfl ?_ (fun _ _ => ?_))) | (refine is_mi ?_; first | refine mi_val rfl ?_) | (refine is_ex ?_; first | (refine rl_extB rfl ?_; intro _ _) | refine ex_valn rfl (by (try simp only [nfA, T_md, Nat.reduceAdd]) <;> apply rfl) ?_) | (refine is_pk ?_; first | refine pk_twoT rfl rfl ?_ | refine pk_twoF rfl rfl ?_ | (refine pk_case rfl ?_ ?_ <;> (intro h; subst h))) | (refine is_uo ?_; first | refine uo_val rfl ?_) | (refine is_bi ?_; first | (refine bi_gated rfl (by (try simp only [nfA, T_md, Nat.reduceAdd]) <;> apply rfl) ?_; intro _) | refine bi_val rfl ?_ | refine bi_own rfl (by first | rfl | (repeat (first | exact lookB_hd | refine lookB_sl rfl ?_))) ?_ ?_ | refine bi_needN rfl ?_ ?_)) | refine rl_nil ?_ | (refine is_aw ?_; first | refine aw_seq ?_ | refine aw_scope ?_ | refine aw_reg rfl ?_ | refine aw_draw rfl ?_ | refine aw_condT rfl ?_ | refine aw_condF rfl ?_ | (refine aw_condN rfl ?_ ?_ <;> (intro h; subst h)) | (refine aw_cond rfl ?_ ?_ <;> (intro h; subst h)) | refine aw_skip ?_ | refine aw_ret ?_ | refine aw_exit ?_ | refine aw_block ?_ | refine aw_label ?_) | refine tq_n ?_ | refine ng_n ?_ | refine ng_r ?_ | refine ng_x ?_ | refine ⟨(rfl : regOk _ _ = true), ?_⟩ | refine tq_r ?_ | refine tq_x ?_ | refine bq_n ?_ | refine bq_x ?_ | refine bq_r ?_ | refine bq_o rfl ?_ | refine fq_r rfl ?_ | refine fq_n rfl ?_)
        · rename_i hok
          rw [hok] at hg
          rw [hfold, ← hg]
          rfl
        · rename_i hok
          rw [hok, if_pos rfl] at hg
          refine ⟨(k, (upV v x).1), _, by dsimp only; omega, le_of ⟨?_, rfl, rfl, rfl, trivial⟩ ⟨lookM_hd, lookM_sl rfl (lookM_sl rfl lookM_hd), trivial⟩ trivial (Nat.le_refl _), by dsimp only; omega, by dsimp only; omega, hg⟩
          have e3 : ((k + 1 : Nat) : Int) - 1 - 1 = (k : Int) - 1 := by omega
          dsimp only
          rw [← e3]; rfl
      · rename_i hm0
        simp only [maxLen_eq, List.length_map, decide_eq_true_eq, decide_eq_false_iff_not, Int.toNat_natCast, Bool.not_eq_true', Bool.not_eq_false', Bool.not_eq_true, Bool.not_eq_false] at *
        obtain rfl : m = 0 := by omega
        rw [goUp] at hg
        rw [hfold, ← hg]
        simp [normD, norm1, encF, ev]
end Go.Proofs.YtbeafnkcimfeeaaDoor.AM.TT
