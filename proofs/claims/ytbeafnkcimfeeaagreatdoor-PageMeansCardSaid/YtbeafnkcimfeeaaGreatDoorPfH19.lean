/- Contracts of the functions and their models, by the abstract machine. -/
import Derived.Test.YtbeafnkcimfeeaaGreatDoorPfH18
namespace Go.Proofs.YtbeafnkcimfeeaaGreatDoor.AM.TT
set_option linter.unusedVariables false
set_option linter.unusedSimpArgs false
open Go Go.Proofs.YtbeafnkcimfeeaaGreatDoor.AM Go.Proofs
set_option linter.unusedSimpArgs false
set_option linter.unusedVariables false
attribute [local irreducible] RunL AWp StepK OpK thenQ blockQ noGotoQ fnQ fnEQ
theorem enter74 : EnterOk Tryz.prog 74 := EnterOk_of (fn := Tryz.f74) (by kernel_rfl) (by kernel_rfl) (by kernel_rfl)
theorem f74_calls (l : List Rec) : CallsD Tryz.prog 74 [.lst 15 (ecs l)] (.bool (fewM8 l)) := by
  refine CallsD_bd enter74 fun hbd => CallsD_of good mixed (fn := Tryz.f74) (by kernel_rfl) rfl enter74 (Nat.le_of_ble_eq_true rfl) ?_
  show AWp _ _ _ _ _ ⟨[(0, _)], [], [], 0⟩
  repeat' (first | (refine is_cons ?_; first | (refine is_g ?_; first | refine rl_on rfl rfl ?_ | refine rl_off rfl rfl ?_ | refine rl_offU rfl ?_ | (refine rl_case rfl ?_ ?_ <;> (intro h; first | subst h | (simp only [Bool.not_eq_true', Bool.not_eq_false'] at h; subst h)))) | (refine is_mv ?_; first | refine mv_val rfl ?_) | (refine is_bo ?_; first | refine rl_binT rfl ?_ | refine rl_binF rfl ?_ | (refine rl_binB rfl ?_; intro _ _) | (refine rl_half rfl (by (try simp only [maxLen_eq, List.length_map, decide_eq_true_eq, decide_eq_false_iff_not] at *); omega) ?_) | (refine rl_binW rfl (by (try simp only [maxLen_eq, List.length_map, decide_eq_true_eq, decide_eq_false_iff_not] at *); omega) ?_) | refine bo_val rfl ?_) | (refine is_as ?_; first | refine as_val rfl ?_ | refine as_new rfl rfl ?_) | (refine is_fa ?_; first | refine fa_valn rfl (by (try simp only [nfA, T_md, Nat.reduceAdd]) <;> apply rfl) ?_) | (refine is_ld ?_; first | refine ld_load rfl (by first | rfl | (repeat (first | exact lookM_hd | refine lookM_sl rfl ?_))) rfl (by (try simp only [nfA, T_md, Nat.reduceAdd]) <;> apply rfl) ?_ | refine ld_valn rfl (by (try simp only [nfA, T_md, Nat.reduceAdd]) <;> apply rfl) ?_) | (refine is_ia ?_; first | (refine ia_elt rfl ?_ (fun _ _ => ?_))) | (refine is_pk ?_; first | refine pk_twoT rfl rfl ?_ | refine pk_twoF rfl rfl ?_ | (refine pk_case rfl ?_ ?_ <;> (intro h; subst h))) | (refine is_bi ?_; first | (refine bi_gated rfl (by (try simp only [nfA, T_md, Nat.reduceAdd]) <;> apply rfl) ?_; intro _) | refine bi_val rfl ?_ | refine bi_own rfl (by first | rfl | (repeat (first | exact lookB_hd | refine lookB_sl rfl ?_))) ?_ ?_ | refine bi_needN rfl ?_ ?_)) | refine rl_nil ?_ | (refine is_aw ?_; first | refine aw_seq ?_ | refine aw_scope ?_ | refine aw_reg rfl ?_ | refine aw_draw rfl ?_ | refine aw_condT rfl ?_ | refine aw_condF rfl ?_ | (refine aw_condN rfl ?_ ?_ <;> (intro h; subst h)) | (refine aw_cond rfl ?_ ?_ <;> (intro h; subst h)) | refine aw_skip ?_ | refine aw_ret ?_ | refine aw_exit ?_ | refine aw_block ?_ | refine aw_label ?_) | refine tq_n ?_ | refine ng_n ?_ | refine ng_r ?_ | refine ng_x ?_ | refine ⟨(rfl : regOk _ _ = true), ?_⟩ | refine tq_r ?_ | refine tq_x ?_ | refine bq_n ?_ | refine bq_x ?_ | refine bq_r ?_ | refine bq_o rfl ?_ | refine fq_r rfl ?_ | refine fq_n rfl ?_)
  refine aw_loopX (fun (i : Nat) e => ⟨[(5, .dat (I i)), (3, .dat (I (nU8 l i))), (4, .dat (I (bU8 l i))), (0, .dat (.lst 15 (ecs l)))], [], [], e⟩) (fun i => i ≤ l.length ∧ i ≤ 41) (fun i => l.length - i) 0 _ (le_of ⟨rfl, rfl, rfl, rfl, trivial⟩ trivial trivial (Nat.le_refl _)) (by simp) ?_
  rintro i e ⟨hi, hi2⟩
  have hn := nU8_le l i
  have hb := bU8_le l i
  repeat' (first | (refine is_cons ?_; first | (refine is_g ?_; first | refine rl_on rfl rfl ?_ | refine rl_off rfl rfl ?_ | refine rl_offU rfl ?_ | (refine rl_case rfl ?_ ?_ <;> (intro h; first | subst h | (simp only [Bool.not_eq_true', Bool.not_eq_false'] at h; subst h)))) | (refine is_mv ?_; first | refine mv_val rfl ?_) | (refine is_bo ?_; first | refine rl_binT rfl ?_ | refine rl_binF rfl ?_ | (refine rl_binB rfl ?_; intro _ _) | (refine rl_half rfl (by (try simp only [maxLen_eq, List.length_map, decide_eq_true_eq, decide_eq_false_iff_not] at *); omega) ?_) | (refine rl_binW rfl (by (try simp only [maxLen_eq, List.length_map, decide_eq_true_eq, decide_eq_false_iff_not] at *); omega) ?_) | refine bo_val rfl ?_) | (refine is_as ?_; first | refine as_val rfl ?_ | refine as_new rfl rfl ?_) | (refine is_fa ?_; first | refine fa_valn rfl (by (try simp only [nfA, T_md, Nat.reduceAdd]) <;> apply rfl) ?_) | (refine is_ld ?_; first | refine ld_load rfl (by first | rfl | (repeat (first | exact lookM_hd | refine lookM_sl rfl ?_))) rfl (by (try simp only [nfA, T_md, Nat.reduceAdd]) <;> apply rfl) ?_ | refine ld_valn rfl (by (try simp only [nfA, T_md, Nat.reduceAdd]) <;> apply rfl) ?_) | (refine is_ia ?_; first | (refine ia_elt rfl ?_ (fun _ _ => ?_))) | (refine is_pk ?_; first | refine pk_twoT rfl rfl ?_ | refine pk_twoF rfl rfl ?_ | (refine pk_case rfl ?_ ?_ <;> (intro h; subst h))) | (refine is_bi ?_; first | (refine bi_gated rfl (by (try simp only [nfA, T_md, Nat.reduceAdd]) <;> apply rfl) ?_; intro _) | refine bi_val rfl ?_ | refine bi_own rfl (by first | rfl | (repeat (first | exact lookB_hd | refine lookB_sl rfl ?_))) ?_ ?_ | refine bi_needN rfl ?_ ?_)) | refine rl_nil ?_ | (refine is_aw ?_; first | refine aw_seq ?_ | refine aw_scope ?_ | refine aw_reg rfl ?_ | refine aw_draw rfl ?_ | refine aw_condT rfl ?_ | refine aw_condF rfl ?_ | (refine aw_condN rfl ?_ ?_ <;> (intro h; subst h)) | (refine aw_cond rfl ?_ ?_ <;> (intro h; subst h)) | refine aw_skip ?_ | refine aw_ret ?_ | refine aw_exit ?_ | refine aw_block ?_ | refine aw_label ?_) | refine tq_n ?_ | refine ng_n ?_ | refine ng_r ?_ | refine ng_x ?_ | refine ⟨(rfl : regOk _ _ = true), ?_⟩ | refine tq_r ?_ | refine tq_x ?_ | refine bq_n ?_ | refine bq_x ?_ | refine bq_r ?_ | refine bq_o rfl ?_ | refine fq_r rfl ?_ | refine fq_n rfl ?_)
  · simp only [maxLen_eq, List.length_map, decide_eq_true_eq, decide_eq_false_iff_not, Int.toNat_natCast, Bool.not_eq_true', Bool.not_eq_false', Bool.not_eq_true, Bool.not_eq_false] at *; omega
  · simp only [maxLen_eq, List.length_map, decide_eq_true_eq, decide_eq_false_iff_not, Int.toNat_natCast, Bool.not_eq_true', Bool.not_eq_false', Bool.not_eq_true, Bool.not_eq_false] at *; omega
  · simp only [maxLen_eq, List.length_map, decide_eq_true_eq, decide_eq_false_iff_not, Int.toNat_natCast, Bool.not_eq_true', Bool.not_eq_false', Bool.not_eq_true, Bool.not_eq_false] at *; omega
  · simp only [maxLen_eq, List.length_map, decide_eq_true_eq, decide_eq_false_iff_not, Int.toNat_natCast, Bool.not_eq_true', Bool.not_eq_false', Bool.not_eq_true, Bool.not_eq_false] at *; omega
  · rename_i h1 h2 x hx k1 y hy k2 z hz k3 u hu k4
    simp only [maxLen_eq, List.length_map, decide_eq_true_eq, decide_eq_false_iff_not, Int.toNat_natCast, Bool.not_eq_true', Bool.not_eq_false', Bool.not_eq_true, Bool.not_eq_false] at *
    rw [hx] at hy hz hu
    cases hy; cases hz; cases hu
    have hx' : l.getD i default = x := by simp [List.getD, hx]
    have hbh := bH8_le x
    refine aw_loopX (fun (k : Nat) e => ⟨[(6, .dat (I k)), (5, .dat (I i)), (3, .dat (I ((nU8 l i : Int) + k))), (4, .dat (I (bU8 l i + bH8 x + rB8 x.ents k))), (0, .dat (.lst 15 (ecs l)))], [], [], e⟩) (fun k => k ≤ x.ents.length ∧ k ≤ 101) (fun k => x.ents.length - k) 0 _ (le_of ⟨rfl, rfl, ?_, ?_, rfl, trivial⟩ trivial trivial (Nat.le_refl _)) (by simp) ?_
    · show _ = some (PV.dat (I ((nU8 l i : Int) + ((0 : Nat) : Int))))
      rw [show ((nU8 l i : Int) + ((0 : Nat) : Int)) = (nU8 l i : Int) by simp]; rfl
    · show _ = some (PV.dat (I (bU8 l i + bH8 x + 0)))
      rw [Int.add_zero]; rfl
    rintro k e' ⟨hk1, hk2⟩
    have hrb := rB8_le x.ents k
    repeat' (first | (refine is_cons ?_; first | (refine is_g ?_; first | refine rl_on rfl rfl ?_ | refine rl_off rfl rfl ?_ | refine rl_offU rfl ?_ | (refine rl_case rfl ?_ ?_ <;> (intro h; first | subst h | (simp only [Bool.not_eq_true', Bool.not_eq_false'] at h; subst h)))) | (refine is_mv ?_; first | refine mv_val rfl ?_) | (refine is_bo ?_; first | refine rl_binT rfl ?_ | refine rl_binF rfl ?_ | (refine rl_binB rfl ?_; intro _ _) | (refine rl_half rfl (by (try simp only [maxLen_eq, List.length_map, decide_eq_true_eq, decide_eq_false_iff_not] at *); omega) ?_) | (refine rl_binW rfl (by (try simp only [maxLen_eq, List.length_map, decide_eq_true_eq, decide_eq_false_iff_not] at *); omega) ?_) | refine bo_val rfl ?_) | (refine is_as ?_; first | refine as_val rfl ?_ | refine as_new rfl rfl ?_) | (refine is_fa ?_; first | refine fa_valn rfl (by (try simp only [nfA, T_md, Nat.reduceAdd]) <;> apply rfl) ?_) | (refine is_ld ?_; first | refine ld_load rfl (by first | rfl | (repeat (first | exact lookM_hd | refine lookM_sl rfl ?_))) rfl (by (try simp only [nfA, T_md, Nat.reduceAdd]) <;> apply rfl) ?_ | refine ld_valn rfl (by (try simp only [nfA, T_md, Nat.reduceAdd]) <;> apply rfl) ?_) | (refine is_ia ?_; first | (refine ia_elt rfl ?_ (fun _ _ => ?_))) | (refine is_pk ?_; first | refine pk_twoT rfl rfl ?_ | refine pk_twoF rfl rfl ?_ | (refine pk_case rfl ?_ ?_ <;> (intro h; subst h))) | (refine is_bi ?_; first | (refine bi_gated rfl (by (try simp only [nfA, T_md, Nat.reduceAdd]) <;> apply rfl) ?_; intro _) | refine bi_val rfl ?_ | refine bi_own rfl (by first | rfl | (repeat (first | exact lookB_hd | refine lookB_sl rfl ?_))) ?_ ?_ | refine bi_needN rfl ?_ ?_)) | refine rl_nil ?_ | (refine is_aw ?_; first | refine aw_seq ?_ | refine aw_scope ?_ | refine aw_reg rfl ?_ | refine aw_draw rfl ?_ | refine aw_condT rfl ?_ | refine aw_condF rfl ?_ | (refine aw_condN rfl ?_ ?_ <;> (intro h; subst h)) | (refine aw_cond rfl ?_ ?_ <;> (intro h; subst h)) | refine aw_skip ?_ | refine aw_ret ?_ | refine aw_exit ?_ | refine aw_block ?_ | refine aw_label ?_) | refine tq_n ?_ | refine ng_n ?_ | refine ng_r ?_ | refine ng_x ?_ | refine ⟨(rfl : regOk _ _ = true), ?_⟩ | refine tq_r ?_ | refine tq_x ?_ | refine bq_n ?_ | refine bq_x ?_ | refine bq_r ?_ | refine bq_o rfl ?_ | refine fq_r rfl ?_ | refine fq_n rfl ?_)
    all_goals first
      | (simp only [Int.toNat_natCast, decide_eq_true_eq, decide_eq_false_iff_not] at *; omega)
      | (simp_all; done)
      | (simp_all; omega)
      | skip
    · rename_i x9 h9 hlen hlt hle x7 h7 r5 h5 k5
      simp only [maxLen_eq, List.length_map, decide_eq_true_eq, decide_eq_false_iff_not, Int.toNat_natCast, Bool.not_eq_true', Bool.not_eq_false', Bool.not_eq_true, Bool.not_eq_false] at *
      rw [hx] at h9 h7
      cases h9; cases h7
      have hr : x.ents.getD k default = r5 := by simp [List.getD, h5]
      refine ⟨k + 1, _, by omega, le_of ⟨rfl, rfl, ?_, ?_, rfl, trivial⟩ trivial trivial (Nat.le_refl _), by omega, by omega⟩
      · have e3 : ((nU8 l i : Int) + ((k + 1 : Nat) : Int)) = (nU8 l i : Int) + k + 1 := by omega
        rw [e3]; rfl
      · have e4 : bU8 l i + bH8 x + rB8 x.ents (k + 1) = bU8 l i + bH8 x + rB8 x.ents k + m3 r5.key := by rw [rB8, hr]; omega
        rw [e4]; rfl
    · rename_i x9 h9 hlen hlt hle
      simp only [maxLen_eq, List.length_map, decide_eq_true_eq, decide_eq_false_iff_not, Int.toNat_natCast, Bool.not_eq_true', Bool.not_eq_false', Bool.not_eq_true, Bool.not_eq_false] at *
      rw [hx] at h9
      cases h9
      have hrn : k = rN8 x := by unfold rN8; omega
      have e3 : ((nU8 l i : Int) + k) = ((nU8 l (i + 1) : Nat) : Int) := by rw [nU8, hx', ← hrn]; omega
      have e4 : bU8 l i + bH8 x + rB8 x.ents k = bU8 l (i + 1) := by rw [bU8, hx', ← hrn]
      exact ⟨i + 1, _, by omega, le_of ⟨rfl, by rw [← e3]; rfl, by rw [← e4]; rfl, rfl, trivial⟩ trivial trivial (Nat.le_refl _), by omega, by omega⟩
    · rename_i x9 h9 hlen hlt
      simp only [maxLen_eq, List.length_map, decide_eq_true_eq, decide_eq_false_iff_not, Int.toNat_natCast, Bool.not_eq_true', Bool.not_eq_false', Bool.not_eq_true, Bool.not_eq_false] at *
      rw [hx] at h9
      cases h9
      have hrn : k = rN8 x := by unfold rN8; omega
      have e3 : ((nU8 l i : Int) + k) = ((nU8 l (i + 1) : Nat) : Int) := by rw [nU8, hx', ← hrn]; omega
      have e4 : bU8 l i + bH8 x + rB8 x.ents k = bU8 l (i + 1) := by rw [bU8, hx', ← hrn]
      exact ⟨i + 1, _, by omega, le_of ⟨rfl, by rw [← e3]; rfl, by rw [← e4]; rfl, rfl, trivial⟩ trivial trivial (Nat.le_refl _), by omega, by omega⟩
  all_goals
    have hm : i = min l.length 41 := by
      simp only [List.length_map, decide_eq_true_eq, decide_eq_false_iff_not] at *
      omega
    simp only [fewM8, ← hm]
  all_goals
    have e1 : decide ((l.length : Int) ≤ 40) = decide (l.length ≤ 40) := decide_eq_decide.2 (by omega)
    have e2 : decide ((nU8 l i : Int) ≤ 100) = decide (nU8 l i ≤ 100) := decide_eq_decide.2 (by omega)
    simp only [e1, e2] at *
    clear e1 e2 hm
    simp only [normD]
    congr 1
    first
    | (simp_all; done)
    | grind
end Go.Proofs.YtbeafnkcimfeeaaGreatDoor.AM.TT
