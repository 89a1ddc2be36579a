/- Contracts of the functions and their models, by the abstract machine. -/
import Derived.Test.YtbeafnkcimfeeaaGreatDoorPfTb
import Derived.Test.YtbeafnkcimfeeaaGreatDoorAm3
import Derived.Test.YtbeafnkcimfeeaaGreatDoorPfEnc
namespace Go.Proofs.YtbeafnkcimfeeaaGreatDoor.AM.TT
set_option linter.unusedVariables false
set_option linter.unusedSimpArgs false
open Go Go.Proofs.YtbeafnkcimfeeaaGreatDoor.AM Go.Proofs
set_option linter.unusedSimpArgs false
set_option linter.unusedVariables false
attribute [local irreducible] RunL AWp StepK OpK thenQ blockQ noGotoQ fnQ
theorem enter99 : EnterOk Tryz.prog 99 := EnterOk_of (fn := Tryz.f99) (by kernel_rfl) (by kernel_rfl) (by kernel_rfl)
theorem f99_calls (s : Str) : CallsD Tryz.prog 99 [.str s] (.bool (rightK s)) := by
  refine CallsD_bd enter99 fun hbd => CallsD_of good mixed (fn := Tryz.f99) (by kernel_rfl) rfl enter99 (Nat.le_of_ble_eq_true rfl) ?_
  show AWp _ _ _ _ _ ⟨[(0, _)], [], [], 0⟩
  repeat' (first | (refine is_cons ?_; first | (refine is_g ?_; first | refine rl_on rfl rfl ?_ | refine rl_off rfl rfl ?_ | refine rl_offU rfl ?_ | (refine rl_case rfl ?_ ?_ <;> (intro h; first | subst h | (simp only [Bool.not_eq_true', Bool.not_eq_false'] at h; subst h)))) | (refine is_mv ?_; first | refine mv_val rfl ?_) | (refine is_as ?_; first | refine as_val rfl ?_ | refine as_new rfl rfl ?_) | (refine is_bo ?_; first | refine rl_binT rfl ?_ | refine rl_binF rfl ?_ | (refine rl_binB rfl ?_; intro _ _) | (refine rl_half rfl (by (try simp only [maxLen_eq, List.length_map, decide_eq_true_eq, decide_eq_false_iff_not] at *); omega) ?_) | (refine rl_binW rfl (by (try simp only [maxLen_eq, List.length_map, decide_eq_true_eq, decide_eq_false_iff_not] at *); omega) ?_) | refine bo_val rfl ?_) | (refine is_pk ?_; first | refine pk_twoT rfl rfl ?_ | refine pk_twoF rfl rfl ?_ | (refine pk_case rfl ?_ ?_ <;> (intro h; subst h))) | (refine is_bi ?_; first | (refine bi_gated rfl (by (try simp only [nfA, T_md, Nat.reduceAdd]) <;> apply rfl) ?_; intro _) | refine bi_val rfl ?_ | refine bi_own rfl (by first | rfl | (repeat (first | exact lookB_hd | refine lookB_sl rfl ?_))) ?_ ?_ | refine bi_needN rfl ?_ ?_)) | refine rl_nil ?_ | (refine is_aw ?_; first | refine aw_seq ?_ | refine aw_scope ?_ | refine aw_reg rfl ?_ | refine aw_draw rfl ?_ | refine aw_condT rfl ?_ | refine aw_condF rfl ?_ | (refine aw_condN rfl ?_ ?_ <;> (intro h; subst h)) | (refine aw_cond rfl ?_ ?_ <;> (intro h; subst h)) | refine aw_skip ?_ | refine aw_ret ?_ | refine aw_exit ?_ | refine aw_block ?_ | refine aw_label ?_) | refine tq_n ?_ | refine ng_n ?_ | refine ng_r ?_ | refine ng_x ?_ | refine ⟨(rfl : regOk _ _ = true), ?_⟩ | refine tq_r ?_ | refine tq_x ?_ | refine bq_n ?_ | refine bq_x ?_ | refine bq_r ?_ | refine bq_o rfl ?_ | refine fq_r rfl ?_ | refine fq_n rfl ?_)
  all_goals
    simp only [decide_eq_true_eq, decide_eq_false_iff_not] at *
    simp only [normD, norm1, rightK]
    congr 1
    rw [Bool.eq_iff_iff]
    simp
    grind
theorem enter160 : EnterOk Tryz.prog 160 := EnterOk_of (fn := Tryz.f160) (by kernel_rfl) (by kernel_rfl) (by kernel_rfl)
theorem f160_calls (a b : Str) : CallsD Tryz.prog 160 [.str a, .str b] (.int .i64 (common a b)) := by
  refine CallsD_bd enter160 fun hbd => CallsD_of good mixed (fn := Tryz.f160) (by kernel_rfl) rfl enter160 (Nat.le_of_ble_eq_true rfl) ?_
  show AWp _ _ _ _ _ ⟨[(0, _), (1, _)], [], [], 0⟩
  repeat' (first | (refine is_cons ?_; first | (refine is_mv ?_; first | refine mv_val rfl ?_) | (refine is_as ?_; first | refine as_val rfl ?_ | refine as_new rfl rfl ?_) | (refine is_bo ?_; first | refine rl_binT rfl ?_ | refine rl_binF rfl ?_ | (refine rl_binB rfl ?_; intro _ _) | (refine rl_half rfl (by (try simp only [maxLen_eq, List.length_map, decide_eq_true_eq, decide_eq_false_iff_not] at *); omega) ?_) | (refine rl_binW rfl (by (try simp only [maxLen_eq, List.length_map, decide_eq_true_eq, decide_eq_false_iff_not] at *); omega) ?_) | refine bo_val rfl ?_) | (refine is_ix ?_; first | (refine ix_idx rfl ?_ (fun _ _ => ?_))) | (refine is_bi ?_; first | (refine bi_gated rfl (by (try simp only [nfA, T_md, Nat.reduceAdd]) <;> apply rfl) ?_; intro _) | refine bi_val rfl ?_ | refine bi_own rfl (by first | rfl | (repeat (first | exact lookB_hd | refine lookB_sl rfl ?_))) ?_ ?_ | refine bi_needN rfl ?_ ?_)) | refine rl_nil ?_ | (refine is_aw ?_; first | refine aw_seq ?_ | refine aw_scope ?_ | refine aw_reg rfl ?_ | refine aw_draw rfl ?_ | refine aw_condT rfl ?_ | refine aw_condF rfl ?_ | (refine aw_condN rfl ?_ ?_ <;> (intro h; subst h)) | (refine aw_cond rfl ?_ ?_ <;> (intro h; subst h)) | refine aw_skip ?_ | refine aw_ret ?_ | refine aw_exit ?_ | refine aw_block ?_ | refine aw_label ?_) | refine tq_n ?_ | refine ng_n ?_ | refine ng_r ?_ | refine ng_x ?_ | refine ⟨(rfl : regOk _ _ = true), ?_⟩ | refine tq_r ?_ | refine tq_x ?_ | refine bq_n ?_ | refine bq_x ?_ | refine bq_r ?_ | refine bq_o rfl ?_ | refine fq_r rfl ?_ | refine fq_n rfl ?_)
  have hab := common_le a b
  refine aw_loopX (fun (n : Nat) e => ⟨[(11, .dat (.int .i64 n)), (10, .dat (.int .i64 (if (b.length : Int) < a.length then b.length else a.length))), (5, .dat (.int .i64 n)), (0, .dat (.str a)), (1, .dat (.str b))], [], [], e⟩) (fun n => n ≤ common a b) (fun n => a.length - n) 0 _ (le_of ⟨rfl, rfl, rfl, rfl, rfl, trivial⟩ trivial trivial (Nat.le_refl _)) (by simp) ?_
  intro n e hn
  repeat' (first | (refine is_cons ?_; first | (refine is_mv ?_; first | refine mv_val rfl ?_) | (refine is_as ?_; first | refine as_val rfl ?_ | refine as_new rfl rfl ?_) | (refine is_bo ?_; first | refine rl_binT rfl ?_ | refine rl_binF rfl ?_ | (refine rl_binB rfl ?_; intro _ _) | (refine rl_half rfl (by (try simp only [maxLen_eq, List.length_map, decide_eq_true_eq, decide_eq_false_iff_not] at *); omega) ?_) | (refine rl_binW rfl (by (try simp only [maxLen_eq, List.length_map, decide_eq_true_eq, decide_eq_false_iff_not] at *); omega) ?_) | refine bo_val rfl ?_) | (refine is_ix ?_; first | (refine ix_idx rfl ?_ (fun _ _ => ?_))) | (refine is_bi ?_; first | (refine bi_gated rfl (by (try simp only [nfA, T_md, Nat.reduceAdd]) <;> apply rfl) ?_; intro _) | refine bi_val rfl ?_ | refine bi_own rfl (by first | rfl | (repeat (first | exact lookB_hd | refine lookB_sl rfl ?_))) ?_ ?_ | refine bi_needN rfl ?_ ?_)) | refine rl_nil ?_ | (refine is_aw ?_; first | refine aw_seq ?_ | refine aw_scope ?_ | refine aw_reg rfl ?_ | refine aw_draw rfl ?_ | refine aw_condT rfl ?_ | refine aw_condF rfl ?_ | (refine aw_condN rfl ?_ ?_ <;> (intro h; subst h)) | (refine aw_cond rfl ?_ ?_ <;> (intro h; subst h)) | refine aw_skip ?_ | refine aw_ret ?_ | refine aw_exit ?_ | refine aw_block ?_ | refine aw_label ?_) | refine tq_n ?_ | refine ng_n ?_ | refine ng_r ?_ | refine ng_x ?_ | refine ⟨(rfl : regOk _ _ = true), ?_⟩ | refine tq_r ?_ | refine tq_x ?_ | refine bq_n ?_ | refine bq_x ?_ | refine bq_r ?_ | refine bq_o rfl ?_ | refine fq_r rfl ?_ | refine fq_n rfl ?_)
  · simp only [decide_eq_true_eq, decide_eq_false_iff_not, Int.toNat_natCast, Bool.not_eq_true', Bool.not_eq_false'] at *; omega
  · simp only [decide_eq_true_eq, decide_eq_false_iff_not, Int.toNat_natCast, Bool.not_eq_true', Bool.not_eq_false'] at *; omega
  · rename_i lt x h1 y h2 h3; simp only [decide_eq_true_eq, decide_eq_false_iff_not, Int.toNat_natCast, Bool.not_eq_true', Bool.not_eq_false'] at *
    obtain ⟨q1, r1⟩ := List.getElem?_eq_some_iff.1 h1
    obtain ⟨q2, r2⟩ := List.getElem?_eq_some_iff.1 h2
    have := common_at a b n q1 q2 hn
    rw [r1, r2] at this
    simp only [normD, norm1, DV.int.injEq, true_and]
    have : ¬ x = y := fun e => h3 (by rw [e])
    grind
  · rename_i lt x h1 y h2 h3; simp only [decide_eq_true_eq, decide_eq_false_iff_not, Int.toNat_natCast, Bool.not_eq_true', Bool.not_eq_false'] at *
    obtain ⟨q1, r1⟩ := List.getElem?_eq_some_iff.1 h1
    obtain ⟨q2, r2⟩ := List.getElem?_eq_some_iff.1 h2
    have := common_at a b n q1 q2 hn
    rw [r1, r2] at this
    have e : x = y := UInt8.toNat_inj.1 (by omega)
    exact ⟨n + 1, _, by omega, le_of ⟨rfl, rfl, rfl, rfl, rfl, trivial⟩ trivial trivial (Nat.le_refl _), this.1 e⟩
  · simp only [decide_eq_true_eq, decide_eq_false_iff_not, Int.toNat_natCast, Bool.not_eq_true', Bool.not_eq_false'] at *
    simp only [normD, norm1, DV.int.injEq, true_and]
    split at * <;> omega
theorem enter132 : EnterOk Tryz.prog 132 := EnterOk_of (fn := Tryz.f132) (by kernel_rfl) (by kernel_rfl) (by kernel_rfl)
theorem f132_calls (a b : Str) : CallsD Tryz.prog 132 [.str a, .str b] (.int .i64 (cmp a b)) := by
  refine CallsD_bd enter132 fun hbd => CallsD_of good mixed (fn := Tryz.f132) (by kernel_rfl) rfl enter132 (Nat.le_of_ble_eq_true rfl) ?_
  show AWp _ _ _ _ _ ⟨[(0, _), (1, _)], [], [], 0⟩
  repeat' (first | (refine is_cons ?_; first | (refine is_g ?_; first | refine rl_on rfl rfl ?_ | refine rl_off rfl rfl ?_ | refine rl_offU rfl ?_ | (refine rl_case rfl ?_ ?_ <;> (intro h; first | subst h | (simp only [Bool.not_eq_true', Bool.not_eq_false'] at h; subst h)))) | (refine is_mv ?_; first | refine mv_val rfl ?_) | (refine is_as ?_; first | refine as_val rfl ?_ | refine as_new rfl rfl ?_) | (refine is_bo ?_; first | refine rl_binT rfl ?_ | refine rl_binF rfl ?_ | (refine rl_binB rfl ?_; intro _ _) | (refine rl_half rfl (by (try simp only [maxLen_eq, List.length_map, decide_eq_true_eq, decide_eq_false_iff_not] at *); omega) ?_) | (refine rl_binW rfl (by (try simp only [maxLen_eq, List.length_map, decide_eq_true_eq, decide_eq_false_iff_not] at *); omega) ?_) | refine bo_val rfl ?_) | (refine is_ix ?_; first | (refine ix_idx rfl ?_ (fun _ _ => ?_))) | (refine is_pk ?_; first | refine pk_twoT rfl rfl ?_ | refine pk_twoF rfl rfl ?_ | (refine pk_case rfl ?_ ?_ <;> (intro h; subst h))) | (refine is_bi ?_; first | (refine bi_gated rfl (by (try simp only [nfA, T_md, Nat.reduceAdd]) <;> apply rfl) ?_; intro _) | refine bi_val rfl ?_ | refine bi_own rfl (by first | rfl | (repeat (first | exact lookB_hd | refine lookB_sl rfl ?_))) ?_ ?_ | refine bi_needN rfl ?_ ?_) | (refine is_cf 160 ?_; first | refine cf (f160_calls _ _) rfl ⟨.inl rfl, .inl rfl, trivial⟩ ?_ | refine cf (f160_calls _ _) rfl ⟨(by first | exact .inl rfl | exact .inr (.inl rfl) | exact .inr (.inr ⟨_, _, rfl, rfl⟩)), (by first | exact .inl rfl | exact .inr (.inl rfl) | exact .inr (.inr ⟨_, _, rfl, rfl⟩)), trivial⟩ ?_)) | refine rl_nil ?_ | (refine is_aw ?_; first | refine aw_seq ?_ | refine aw_scope ?_ | refine aw_reg rfl ?_ | refine aw_draw rfl ?_ | refine aw_condT rfl ?_ | refine aw_condF rfl ?_ | (refine aw_condN rfl ?_ ?_ <;> (intro h; subst h)) | (refine aw_cond rfl ?_ ?_ <;> (intro h; subst h)) | refine aw_skip ?_ | refine aw_ret ?_ | refine aw_exit ?_ | refine aw_block ?_ | refine aw_label ?_) | refine tq_n ?_ | refine ng_n ?_ | refine ng_r ?_ | refine ng_x ?_ | refine ⟨(rfl : regOk _ _ = true), ?_⟩ | refine tq_r ?_ | refine tq_x ?_ | refine bq_n ?_ | refine bq_x ?_ | refine bq_r ?_ | refine bq_o rfl ?_ | refine fq_r rfl ?_ | refine fq_n rfl ?_)
  all_goals
    have h1 := common_le a b
    obtain ⟨h2, h3, h4, h5⟩ := lt_common a b
    first
    | (simp only [maxLen_eq, List.length_map, decide_eq_true_eq, decide_eq_false_iff_not, Int.toNat_natCast, Bool.not_eq_true', Bool.not_eq_false', Bool.not_eq_true, Bool.not_eq_false] at *; omega)
    | (simp only [maxLen_eq, List.length_map, decide_eq_true_eq, decide_eq_false_iff_not, Int.toNat_natCast, Bool.not_eq_true', Bool.not_eq_false', Bool.not_eq_true, Bool.not_eq_false] at *; simp only [normD, norm1, DV.int.injEq, true_and]; unfold cmp; grind)
    | (rename_i x hx y hy hxy
       simp only [maxLen_eq, List.length_map, decide_eq_true_eq, decide_eq_false_iff_not, Int.toNat_natCast, Bool.not_eq_true', Bool.not_eq_false', Bool.not_eq_true, Bool.not_eq_false] at *
       simp only [normD, norm1, DV.int.injEq, true_and]
       obtain ⟨h6, h7, h8⟩ := h5 x y hx hy
       have hxy' : (x < y) = (((x.toNat : Int) < (y.toNat : Int))) := by rw [UInt8.lt_iff_toNat_lt]; simp
       unfold cmp
       rw [if_neg h8, h6]
       simp only [hxy', hxy]
       simp)
end Go.Proofs.YtbeafnkcimfeeaaGreatDoor.AM.TT
