/- Contracts of the functions and their models, by the abstract machine. -/
import Derived.Test.YtbeafnkcimfeeaaGreatDoorPfTb
import Derived.Test.YtbeafnkcimfeeaaGreatDoorAm3
import Derived.Test.YtbeafnkcimfeeaaGreatDoorPfModz
import Derived.Test.YtbeafnkcimfeeaaGreatDoorPfH1
import Derived.Test.YtbeafnkcimfeeaaGreatDoorPfH2
import Derived.Test.YtbeafnkcimfeeaaGreatDoorPfInn
namespace Go.Proofs.YtbeafnkcimfeeaaGreatDoor.AM.TT
set_option linter.unusedVariables false
set_option linter.unusedSimpArgs false
open Go Go.Proofs.YtbeafnkcimfeeaaGreatDoor.AM Go.Proofs
set_option linter.unusedSimpArgs false
set_option linter.unusedVariables false
set_option maxHeartbeats 1000000
attribute [local irreducible] RunL AWp StepK OpK thenQ blockQ noGotoQ fnQ fnEQ
theorem enter72 : EnterOk Tryz.prog 72 := EnterOk_of (fn := Tryz.f72) (by kernel_rfl) (by kernel_rfl) (by kernel_rfl)
theorem f72_calls (a b : Str) : CallsD Tryz.prog 72 [.str a, .str b] (.bool (lt a b)) := by
  refine CallsD_bd enter72 fun hbd => CallsD_of good mixed (fn := Tryz.f72) (by kernel_rfl) rfl enter72 (Nat.le_of_ble_eq_true rfl) ?_
  show AWp _ _ _ _ _ ⟨[(0, _), (1, _)], [], [], 0⟩
  repeat' (first | (refine is_cons ?_; first | (refine is_mv ?_; first | refine mv_val rfl ?_) | (refine is_as ?_; first | refine as_val rfl ?_ | refine as_new rfl rfl ?_) | (refine is_bo ?_; first | refine rl_binT rfl ?_ | refine rl_binF rfl ?_ | (refine rl_binB rfl ?_; intro _ _) | (refine rl_half rfl (by (try simp only [maxLen_eq, List.length_map, decide_eq_true_eq, decide_eq_false_iff_not] at *); omega) ?_) | (refine rl_binW rfl (by (try simp only [maxLen_eq, List.length_map, decide_eq_true_eq, decide_eq_false_iff_not] at *); omega) ?_) | refine bo_val rfl ?_) | (refine is_ix ?_; first | (refine ix_idx rfl ?_ (fun _ _ => ?_))) | (refine is_bi ?_; first | (refine bi_gated rfl (by (try simp only [nfA, T_md, Nat.reduceAdd]) <;> apply rfl) ?_; intro _) | refine bi_val rfl ?_ | refine bi_own rfl (by first | rfl | (repeat (first | exact lookB_hd | refine lookB_sl rfl ?_))) ?_ ?_ | refine bi_needN rfl ?_ ?_)) | refine rl_nil ?_ | (refine is_aw ?_; first | refine aw_seq ?_ | refine aw_scope ?_ | refine aw_reg rfl ?_ | refine aw_draw rfl ?_ | refine aw_condT rfl ?_ | refine aw_condF rfl ?_ | (refine aw_condN rfl ?_ ?_ <;> (intro h; subst h)) | (refine aw_cond rfl ?_ ?_ <;> (intro h; subst h)) | refine aw_skip ?_ | refine aw_ret ?_ | refine aw_exit ?_ | refine aw_block ?_ | refine aw_label ?_) | refine tq_n ?_ | refine ng_n ?_ | refine ng_r ?_ | refine ng_x ?_ | refine ⟨(rfl : regOk _ _ = true), ?_⟩ | refine tq_r ?_ | refine tq_x ?_ | refine bq_n ?_ | refine bq_x ?_ | refine bq_r ?_ | refine bq_o rfl ?_ | refine fq_r rfl ?_ | refine fq_n rfl ?_)
  refine aw_loopX (fun (n : Nat) e => ⟨[(5, .dat (I n)), (0, .dat (.str a)), (1, .dat (.str b))], [], [], e⟩) (fun n => n ≤ a.length ∧ n ≤ b.length ∧ lt a b = lt (a.drop n) (b.drop n)) (fun n => b.length - n) 0 _ (le_of ⟨rfl, rfl, rfl, trivial⟩ trivial trivial (Nat.le_refl _)) ⟨Nat.zero_le _, Nat.zero_le _, rfl⟩ ?_
  rintro n e ⟨h1, h2, h3⟩
  repeat' (first | (refine is_cons ?_; first | (refine is_mv ?_; first | refine mv_val rfl ?_) | (refine is_as ?_; first | refine as_val rfl ?_ | refine as_new rfl rfl ?_) | (refine is_bo ?_; first | refine rl_binT rfl ?_ | refine rl_binF rfl ?_ | (refine rl_binB rfl ?_; intro _ _) | (refine rl_half rfl (by (try simp only [maxLen_eq, List.length_map, decide_eq_true_eq, decide_eq_false_iff_not] at *); omega) ?_) | (refine rl_binW rfl (by (try simp only [maxLen_eq, List.length_map, decide_eq_true_eq, decide_eq_false_iff_not] at *); omega) ?_) | refine bo_val rfl ?_) | (refine is_ix ?_; first | (refine ix_idx rfl ?_ (fun _ _ => ?_))) | (refine is_bi ?_; first | (refine bi_gated rfl (by (try simp only [nfA, T_md, Nat.reduceAdd]) <;> apply rfl) ?_; intro _) | refine bi_val rfl ?_ | refine bi_own rfl (by first | rfl | (repeat (first | exact lookB_hd | refine lookB_sl rfl ?_))) ?_ ?_ | refine bi_needN rfl ?_ ?_)) | refine rl_nil ?_ | (refine is_aw ?_; first | refine aw_seq ?_ | refine aw_scope ?_ | refine aw_reg rfl ?_ | refine aw_draw rfl ?_ | refine aw_condT rfl ?_ | refine aw_condF rfl ?_ | (refine aw_condN rfl ?_ ?_ <;> (intro h; subst h)) | (refine aw_cond rfl ?_ ?_ <;> (intro h; subst h)) | refine aw_skip ?_ | refine aw_ret ?_ | refine aw_exit ?_ | refine aw_block ?_ | refine aw_label ?_) | refine tq_n ?_ | refine ng_n ?_ | refine ng_r ?_ | refine ng_x ?_ | refine ⟨(rfl : regOk _ _ = true), ?_⟩ | refine tq_r ?_ | refine tq_x ?_ | refine bq_n ?_ | refine bq_x ?_ | refine bq_r ?_ | refine bq_o rfl ?_ | refine fq_r rfl ?_ | refine fq_n rfl ?_)
  all_goals try (simp only [maxLen_eq, List.length_map, decide_eq_true_eq, decide_eq_false_iff_not, Int.toNat_natCast, Bool.not_eq_true', Bool.not_eq_false', Bool.not_eq_true, Bool.not_eq_false] at *; omega)
  · simp only [maxLen_eq, List.length_map, decide_eq_true_eq, decide_eq_false_iff_not, Int.toNat_natCast, Bool.not_eq_true', Bool.not_eq_false', Bool.not_eq_true, Bool.not_eq_false] at *
    rw [h3, lt_end (by omega) (by omega)]; rfl
  · rename_i x1 hx1 y1 hy1 hne x hx y hy b0 hb0
    simp only [maxLen_eq, List.length_map, decide_eq_true_eq, decide_eq_false_iff_not, Int.toNat_natCast, Bool.not_eq_true', Bool.not_eq_false', Bool.not_eq_true, Bool.not_eq_false] at *
    rw [hx] at hx1; rw [hy] at hy1; cases hx1; cases hy1
    rw [h3, lt_at hx hy, if_neg (fun q => hne (by rw [q])), ← hb0]
    simp only [normD]
    congr 1
    rw [Bool.eq_iff_iff]
    simp [UInt8.lt_iff_toNat_lt]
  · rename_i x hx y hy he
    simp only [maxLen_eq, List.length_map, decide_eq_true_eq, decide_eq_false_iff_not, Int.toNat_natCast, Bool.not_eq_true', Bool.not_eq_false', Bool.not_eq_true, Bool.not_eq_false] at *
    have hxy : x = y := UInt8.toNat_inj.1 (by omega)
    have hl1 := (List.getElem?_eq_some_iff.1 hx).1
    have hl2 := (List.getElem?_eq_some_iff.1 hy).1
    refine ⟨n + 1, _, by omega, le_of ⟨rfl, rfl, rfl, trivial⟩ trivial trivial (Nat.le_refl _), by omega, by omega, ?_⟩
    rw [h3, lt_at hx hy, if_pos hxy]
  · simp only [maxLen_eq, List.length_map, decide_eq_true_eq, decide_eq_false_iff_not, Int.toNat_natCast, Bool.not_eq_true', Bool.not_eq_false', Bool.not_eq_true, Bool.not_eq_false] at *
    rw [h3, lt_nil (by omega)]; rfl
theorem enter83 : EnterOk Tryz.prog 83 := EnterOk_of (fn := Tryz.f83) (by kernel_rfl) (by kernel_rfl) (by kernel_rfl)
theorem f83_calls (a b : Str) (u : Bool) (k : Str) : CallsD Tryz.prog 83 [.str a, .str b, .bool u, .str k] (.bool (inS a b u k)) := by
  refine CallsD_bd enter83 fun hbd => CallsD_of good mixed (fn := Tryz.f83) (by kernel_rfl) rfl enter83 (Nat.le_of_ble_eq_true rfl) ?_
  show AWp _ _ _ _ _ ⟨[(0, _), (1, _), (2, _), (3, _)], [], [], 0⟩
  repeat' (first | (refine is_cons ?_; first | (refine is_g ?_; first | refine rl_on rfl rfl ?_ | refine rl_off rfl rfl ?_ | refine rl_offU rfl ?_ | (refine rl_case rfl ?_ ?_ <;> (intro h; first | subst h | (simp only [Bool.not_eq_true', Bool.not_eq_false'] at h; subst h)))) | (refine is_mv ?_; first | refine mv_val rfl ?_) | (refine is_as ?_; first | refine as_val rfl ?_ | refine as_new rfl rfl ?_) | (refine is_pk ?_; first | refine pk_twoT rfl rfl ?_ | refine pk_twoF rfl rfl ?_ | (refine pk_case rfl ?_ ?_ <;> (intro h; subst h))) | (refine is_uo ?_; first | refine uo_val rfl ?_) | (refine is_cf 72 ?_; first | (refine cfB (f72_calls _ _) rfl ⟨.inl rfl, .inl rfl, trivial⟩ ?_; intro _ _) | (refine cfB (f72_calls _ _) rfl ⟨(by first | exact .inl rfl | exact .inr (.inl rfl) | exact .inr (.inr ⟨_, _, rfl, rfl⟩)), (by first | exact .inl rfl | exact .inr (.inl rfl) | exact .inr (.inr ⟨_, _, rfl, rfl⟩)), trivial⟩ ?_; intro _ _))) | refine rl_nil ?_ | (refine is_aw ?_; first | refine aw_seq ?_ | refine aw_scope ?_ | refine aw_reg rfl ?_ | refine aw_draw rfl ?_ | refine aw_condT rfl ?_ | refine aw_condF rfl ?_ | (refine aw_condN rfl ?_ ?_ <;> (intro h; subst h)) | (refine aw_cond rfl ?_ ?_ <;> (intro h; subst h)) | refine aw_skip ?_ | refine aw_ret ?_ | refine aw_exit ?_ | refine aw_block ?_ | refine aw_label ?_) | refine tq_n ?_ | refine ng_n ?_ | refine ng_r ?_ | refine ng_x ?_ | refine ⟨(rfl : regOk _ _ = true), ?_⟩ | refine tq_r ?_ | refine tq_x ?_ | refine bq_n ?_ | refine bq_x ?_ | refine bq_r ?_ | refine bq_o rfl ?_ | refine fq_r rfl ?_ | refine fq_n rfl ?_)
  all_goals simp_all [normD, norm1, inS]
theorem enter122 : EnterOk Tryz.prog 122 := EnterOk_of (fn := Tryz.f122) (by kernel_rfl) (by kernel_rfl) (by kernel_rfl)
theorem f122_calls (s : Str) : CallsD Tryz.prog 122 [.str s] (.bool (rightK s)) := by
  refine CallsD_bd enter122 fun hbd => CallsD_of good mixed (fn := Tryz.f122) (by kernel_rfl) rfl enter122 (Nat.le_of_ble_eq_true rfl) ?_
  show AWp _ _ _ _ _ ⟨[(0, _)], [], [], 0⟩
  repeat' (first | (refine is_cons ?_; first | (refine is_g ?_; first | refine rl_on rfl rfl ?_ | refine rl_off rfl rfl ?_ | refine rl_offU rfl ?_ | (refine rl_case rfl ?_ ?_ <;> (intro h; first | subst h | (simp only [Bool.not_eq_true', Bool.not_eq_false'] at h; subst h)))) | (refine is_mv ?_; first | refine mv_val rfl ?_) | (refine is_as ?_; first | refine as_val rfl ?_ | refine as_new rfl rfl ?_) | (refine is_bo ?_; first | refine rl_binT rfl ?_ | refine rl_binF rfl ?_ | (refine rl_binB rfl ?_; intro _ _) | (refine rl_half rfl (by (try simp only [maxLen_eq, List.length_map, decide_eq_true_eq, decide_eq_false_iff_not] at *); omega) ?_) | (refine rl_binW rfl (by (try simp only [maxLen_eq, List.length_map, decide_eq_true_eq, decide_eq_false_iff_not] at *); omega) ?_) | refine bo_val rfl ?_) | (refine is_pk ?_; first | refine pk_twoT rfl rfl ?_ | refine pk_twoF rfl rfl ?_ | (refine pk_case rfl ?_ ?_ <;> (intro h; subst h))) | (refine is_bi ?_; first | (refine bi_gated rfl (by (try simp only [nfA, T_md, Nat.reduceAdd]) <;> apply rfl) ?_; intro _) | refine bi_val rfl ?_ | refine bi_own rfl (by first | rfl | (repeat (first | exact lookB_hd | refine lookB_sl rfl ?_))) ?_ ?_ | refine bi_needN rfl ?_ ?_)) | refine rl_nil ?_ | (refine is_aw ?_; first | refine aw_seq ?_ | refine aw_scope ?_ | refine aw_reg rfl ?_ | refine aw_draw rfl ?_ | refine aw_condT rfl ?_ | refine aw_condF rfl ?_ | (refine aw_condN rfl ?_ ?_ <;> (intro h; subst h)) | (refine aw_cond rfl ?_ ?_ <;> (intro h; subst h)) | refine aw_skip ?_ | refine aw_ret ?_ | refine aw_exit ?_ | refine aw_block ?_ | refine aw_label ?_) | refine tq_n ?_ | refine ng_n ?_ | refine ng_r ?_ | refine ng_x ?_ | refine ⟨(rfl : regOk _ _ = true), ?_⟩ | refine tq_r ?_ | refine tq_x ?_ | refine bq_n ?_ | refine bq_x ?_ | refine bq_r ?_ | refine bq_o rfl ?_ | refine fq_r rfl ?_ | refine fq_n rfl ?_)
  all_goals
    simp only [decide_eq_true_eq, decide_eq_false_iff_not] at *
    simp only [normD, norm1, rightK]
    congr 1
    rw [Bool.eq_iff_iff]
    simp
    grind
end Go.Proofs.YtbeafnkcimfeeaaGreatDoor.AM.TT
namespace Go.Proofs.YtbeafnkcimfeeaaGreatDoor.AM.TT
set_option linter.unusedVariables false
set_option linter.unusedSimpArgs false
open Go Go.Proofs.YtbeafnkcimfeeaaGreatDoor.AM Go.Proofs
set_option linter.unusedSimpArgs false
set_option linter.unusedVariables false
set_option maxHeartbeats 1000000
attribute [local irreducible] RunL AWp StepK OpK thenQ blockQ noGotoQ fnQ fnEQ
theorem enter71 : EnterOk Tryz.prog 71 := EnterOk_of (fn := Tryz.f71) (by kernel_rfl) (by kernel_rfl) (by kernel_rfl)
theorem f71_calls (r : Row) : CallsD Tryz.prog 71 [.agg (er r)] (.bool (fitsK r)) := by
  refine CallsD_bd enter71 fun hbd => CallsD_of good mixed (fn := Tryz.f71) (by kernel_rfl) rfl enter71 (Nat.le_of_ble_eq_true rfl) ?_
  show AWp _ _ _ _ _ ⟨[(0, _)], [], [], 0⟩
  repeat' (first | (refine is_cons ?_; first | (refine is_g ?_; first | refine rl_on rfl rfl ?_ | refine rl_off rfl rfl ?_ | refine rl_offU rfl ?_ | (refine rl_case rfl ?_ ?_ <;> (intro h; first | subst h | (simp only [Bool.not_eq_true', Bool.not_eq_false'] at h; subst h)))) | (refine is_as ?_; first | refine as_val rfl ?_ | refine as_new rfl rfl ?_) | (refine is_ld ?_; first | refine ld_load rfl (by first | rfl | (repeat (first | exact lookM_hd | refine lookM_sl rfl ?_))) rfl (by (try simp only [nfA, T_md, Nat.reduceAdd]) <;> apply rfl) ?_ | refine ld_valn rfl (by (try simp only [nfA, T_md, Nat.reduceAdd]) <;> apply rfl) ?_) | (refine is_fa ?_; first | refine fa_valn rfl (by (try simp only [nfA, T_md, Nat.reduceAdd]) <;> apply rfl) ?_) | (refine is_mv ?_; first | refine mv_val rfl ?_) | (refine is_bo ?_; first | refine rl_binT rfl ?_ | refine rl_binF rfl ?_ | (refine rl_binB rfl ?_; intro _ _) | (refine rl_half rfl (by (try simp only [maxLen_eq, List.length_map, decide_eq_true_eq, decide_eq_false_iff_not] at *); omega) ?_) | (refine rl_binW rfl (by (try simp only [maxLen_eq, List.length_map, decide_eq_true_eq, decide_eq_false_iff_not] at *); omega) ?_) | refine bo_val rfl ?_) | (refine is_pk ?_; first | refine pk_twoT rfl rfl ?_ | refine pk_twoF rfl rfl ?_ | (refine pk_case rfl ?_ ?_ <;> (intro h; subst h))) | (refine is_bx ?_; first | refine bx_alloc rfl (by (try simp only [nfA, T_md, Nat.reduceAdd]) <;> apply rfl) ?_) | (refine is_bi ?_; first | (refine bi_gated rfl (by (try simp only [nfA, T_md, Nat.reduceAdd]) <;> apply rfl) ?_; intro _) | refine bi_val rfl ?_ | refine bi_own rfl (by first | rfl | (repeat (first | exact lookB_hd | refine lookB_sl rfl ?_))) ?_ ?_ | refine bi_needN rfl ?_ ?_) | (refine is_cf 122 ?_; first | (refine cfB (f122_calls _) rfl ⟨.inl rfl, trivial⟩ ?_; intro _ _) | (refine cfB (f122_calls _) rfl ⟨(by first | exact .inl rfl | exact .inr (.inl rfl) | exact .inr (.inr ⟨_, _, rfl, rfl⟩)), trivial⟩ ?_; intro _ _))) | refine rl_nil ?_ | (refine is_aw ?_; first | refine aw_seq ?_ | refine aw_scope ?_ | refine aw_reg rfl ?_ | refine aw_draw rfl ?_ | refine aw_condT rfl ?_ | refine aw_condF rfl ?_ | (refine aw_condN rfl ?_ ?_ <;> (intro h; subst h)) | (refine aw_cond rfl ?_ ?_ <;> (intro h; subst h)) | refine aw_skip ?_ | refine aw_ret ?_ | refine aw_exit ?_ | refine aw_block ?_ | refine aw_label ?_) | refine tq_n ?_ | refine ng_n ?_ | refine ng_r ?_ | refine ng_x ?_ | refine ⟨(rfl : regOk _ _ = true), ?_⟩ | refine tq_r ?_ | refine tq_x ?_ | refine bq_n ?_ | refine bq_x ?_ | refine bq_r ?_ | refine bq_o rfl ?_ | refine fq_r rfl ?_ | refine fq_n rfl ?_)
  · rename_i b _ _ hb
    simp only [normD, norm1, fitsK]
    simp_all
    rw [← hb]; rw [Bool.eq_iff_iff]; simp; omega
  all_goals simp_all [normD, norm1, fitsK]
theorem enter59 : EnterOk Tryz.prog 59 := EnterOk_of (fn := Tryz.f59) (by kernel_rfl) (by kernel_rfl) (by kernel_rfl)
theorem f59_calls (l : List Row) (k : Str) : CallsD Tryz.prog 59 [.lst 2 (ers l), .str k] (.tup [I (place l k), .bool (there l k)]) := by
  refine CallsD_bd enter59 fun hbd => CallsD_of good mixed (fn := Tryz.f59) (by kernel_rfl) rfl enter59 (Nat.le_of_ble_eq_true rfl) ?_
  show AWp _ _ _ _ _ ⟨[(0, _), (1, _)], [], [], 0⟩
  repeat' (first | (refine is_cons ?_; first | (refine is_mv ?_; first | refine mv_val rfl ?_) | (refine is_as ?_; first | refine as_val rfl ?_ | refine as_new rfl rfl ?_) | (refine is_bo ?_; first | refine rl_binT rfl ?_ | refine rl_binF rfl ?_ | (refine rl_binB rfl ?_; intro _ _) | (refine rl_half rfl (by (try simp only [maxLen_eq, List.length_map, decide_eq_true_eq, decide_eq_false_iff_not] at *); omega) ?_) | (refine rl_binW rfl (by (try simp only [maxLen_eq, List.length_map, decide_eq_true_eq, decide_eq_false_iff_not] at *); omega) ?_) | refine bo_val rfl ?_) | (refine is_ld ?_; first | refine ld_load rfl (by first | rfl | (repeat (first | exact lookM_hd | refine lookM_sl rfl ?_))) rfl (by (try simp only [nfA, T_md, Nat.reduceAdd]) <;> apply rfl) ?_ | refine ld_valn rfl (by (try simp only [nfA, T_md, Nat.reduceAdd]) <;> apply rfl) ?_) | (refine is_fa ?_; first | refine fa_valn rfl (by (try simp only [nfA, T_md, Nat.reduceAdd]) <;> apply rfl) ?_) | (refine is_ia ?_; first | (refine ia_elt rfl ?_ (fun _ _ => ?_))) | (refine is_uo ?_; first | refine uo_val rfl ?_) | (refine is_bi ?_; first | (refine bi_gated rfl (by (try simp only [nfA, T_md, Nat.reduceAdd]) <;> apply rfl) ?_; intro _) | refine bi_val rfl ?_ | refine bi_own rfl (by first | rfl | (repeat (first | exact lookB_hd | refine lookB_sl rfl ?_))) ?_ ?_ | refine bi_needN rfl ?_ ?_)) | refine rl_nil ?_ | (refine is_aw ?_; first | refine aw_seq ?_ | refine aw_scope ?_ | refine aw_reg rfl ?_ | refine aw_draw rfl ?_ | refine aw_condT rfl ?_ | refine aw_condF rfl ?_ | (refine aw_condN rfl ?_ ?_ <;> (intro h; subst h)) | (refine aw_cond rfl ?_ ?_ <;> (intro h; subst h)) | refine aw_skip ?_ | refine aw_ret ?_ | refine aw_exit ?_ | refine aw_block ?_ | refine aw_label ?_) | refine tq_n ?_ | refine ng_n ?_ | refine ng_r ?_ | refine ng_x ?_ | refine ⟨(rfl : regOk _ _ = true), ?_⟩ | refine tq_r ?_ | refine tq_x ?_ | refine bq_n ?_ | refine bq_x ?_ | refine bq_r ?_ | refine bq_o rfl ?_ | refine fq_r rfl ?_ | refine fq_n rfl ?_)
  refine aw_loopX (fun (n : Nat) e => ⟨[(6, .dat (I n)), (0, .dat (.lst 2 (ers l))), (1, .dat (.str k))], [], [], e⟩) (fun n => n ≤ place l k) (fun n => l.length - n) 0 _ (le_of ⟨rfl, rfl, rfl, trivial⟩ trivial trivial (Nat.le_refl _)) (by simp) ?_
  intro n e hn
  have hp := place_le l k
  repeat' (first | (refine is_cons ?_; first | (refine is_mv ?_; first | refine mv_val rfl ?_) | (refine is_as ?_; first | refine as_val rfl ?_ | refine as_new rfl rfl ?_) | (refine is_bo ?_; first | refine rl_binT rfl ?_ | refine rl_binF rfl ?_ | (refine rl_binB rfl ?_; intro _ _) | (refine rl_half rfl (by (try simp only [maxLen_eq, List.length_map, decide_eq_true_eq, decide_eq_false_iff_not] at *); omega) ?_) | (refine rl_binW rfl (by (try simp only [maxLen_eq, List.length_map, decide_eq_true_eq, decide_eq_false_iff_not] at *); omega) ?_) | refine bo_val rfl ?_) | (refine is_ld ?_; first | refine ld_load rfl (by first | rfl | (repeat (first | exact lookM_hd | refine lookM_sl rfl ?_))) rfl (by (try simp only [nfA, T_md, Nat.reduceAdd]) <;> apply rfl) ?_ | refine ld_valn rfl (by (try simp only [nfA, T_md, Nat.reduceAdd]) <;> apply rfl) ?_) | (refine is_fa ?_; first | refine fa_valn rfl (by (try simp only [nfA, T_md, Nat.reduceAdd]) <;> apply rfl) ?_) | (refine is_ia ?_; first | (refine ia_elt rfl ?_ (fun _ _ => ?_))) | (refine is_uo ?_; first | refine uo_val rfl ?_) | (refine is_bi ?_; first | (refine bi_gated rfl (by (try simp only [nfA, T_md, Nat.reduceAdd]) <;> apply rfl) ?_; intro _) | refine bi_val rfl ?_ | refine bi_own rfl (by first | rfl | (repeat (first | exact lookB_hd | refine lookB_sl rfl ?_))) ?_ ?_ | refine bi_needN rfl ?_ ?_) | (refine is_cf 72 ?_; first | (refine cfB (f72_calls _ _) rfl ⟨.inl rfl, .inl rfl, trivial⟩ ?_; intro _ _) | (refine cfB (f72_calls _ _) rfl ⟨(by first | exact .inl rfl | exact .inr (.inl rfl) | exact .inr (.inr ⟨_, _, rfl, rfl⟩)), (by first | exact .inl rfl | exact .inr (.inl rfl) | exact .inr (.inr ⟨_, _, rfl, rfl⟩)), trivial⟩ ?_; intro _ _))) | refine rl_nil ?_ | (refine is_aw ?_; first | refine aw_seq ?_ | refine aw_scope ?_ | refine aw_reg rfl ?_ | refine aw_draw rfl ?_ | refine aw_condT rfl ?_ | refine aw_condF rfl ?_ | (refine aw_condN rfl ?_ ?_ <;> (intro h; subst h)) | (refine aw_cond rfl ?_ ?_ <;> (intro h; subst h)) | refine aw_skip ?_ | refine aw_ret ?_ | refine aw_exit ?_ | refine aw_block ?_ | refine aw_label ?_) | refine tq_n ?_ | refine ng_n ?_ | refine ng_r ?_ | refine ng_x ?_ | refine ⟨(rfl : regOk _ _ = true), ?_⟩ | refine tq_r ?_ | refine tq_x ?_ | refine bq_n ?_ | refine bq_x ?_ | refine bq_r ?_ | refine bq_o rfl ?_ | refine fq_r rfl ?_ | refine fq_n rfl ?_)
  all_goals try (simp only [maxLen_eq, List.length_map, decide_eq_true_eq, decide_eq_false_iff_not, Int.toNat_natCast, Bool.not_eq_true', Bool.not_eq_false', Bool.not_eq_true, Bool.not_eq_false] at *; omega)
  · rename_i hl x1 hx1 hc x hx b hb
    simp only [maxLen_eq, List.length_map, decide_eq_true_eq, decide_eq_false_iff_not, Int.toNat_natCast, Bool.not_eq_true', Bool.not_eq_false', Bool.not_eq_true, Bool.not_eq_false] at *
    rw [hx] at hx1; cases hx1
    have h1 := place_at hn hx
    rw [hc] at h1
    have h2 : place l k = n := by
      rcases Nat.lt_or_ge n (place l k) with q | q
      · exact absurd (h1.2 q) (by simp)
      · omega
    have h3 := there_at (l := l) (k := k) (x := x1) (by rw [h2]; exact hx)
    rw [h3, h2, ← hb]; rfl
  · rename_i hl x hx hc
    simp only [maxLen_eq, List.length_map, decide_eq_true_eq, decide_eq_false_iff_not, Int.toNat_natCast, Bool.not_eq_true', Bool.not_eq_false', Bool.not_eq_true, Bool.not_eq_false] at *
    have h1 := (place_at hn hx).1 hc
    exact ⟨n + 1, _, by omega, le_of ⟨rfl, rfl, rfl, trivial⟩ trivial trivial (Nat.le_refl _), h1⟩
  · simp only [maxLen_eq, List.length_map, decide_eq_true_eq, decide_eq_false_iff_not, Int.toNat_natCast, Bool.not_eq_true', Bool.not_eq_false', Bool.not_eq_true, Bool.not_eq_false] at *
    have h2 : place l k = l.length := by omega
    rw [there_end (by omega), h2]; rfl
theorem enter23 : EnterOk Tryz.prog 23 := EnterOk_of (fn := Tryz.f23) (by kernel_rfl) (by kernel_rfl) (by kernel_rfl)
theorem f23_calls (l : List Row) : CallsD Tryz.prog 23 [.lst 2 (ers l)] (.bool (rightR l)) := by
  refine CallsD_bd enter23 fun hbd => CallsD_of good mixed (fn := Tryz.f23) (by kernel_rfl) rfl enter23 (Nat.le_of_ble_eq_true rfl) ?_
  show AWp _ _ _ _ _ ⟨[(0, _)], [], [], 0⟩
  repeat' (first | (refine is_cons ?_; first | (refine is_g ?_; first | refine rl_on rfl rfl ?_ | refine rl_off rfl rfl ?_ | refine rl_offU rfl ?_ | (refine rl_case rfl ?_ ?_ <;> (intro h; first | subst h | (simp only [Bool.not_eq_true', Bool.not_eq_false'] at h; subst h)))) | (refine is_mv ?_; first | refine mv_val rfl ?_) | (refine is_as ?_; first | refine as_val rfl ?_ | refine as_new rfl rfl ?_) | (refine is_bo ?_; first | refine rl_binT rfl ?_ | refine rl_binF rfl ?_ | (refine rl_binB rfl ?_; intro _ _) | (refine rl_half rfl (by (try simp only [maxLen_eq, List.length_map, decide_eq_true_eq, decide_eq_false_iff_not] at *); omega) ?_) | (refine rl_binW rfl (by (try simp only [maxLen_eq, List.length_map, decide_eq_true_eq, decide_eq_false_iff_not] at *); omega) ?_) | refine bo_val rfl ?_) | (refine is_ld ?_; first | refine ld_load rfl (by first | rfl | (repeat (first | exact lookM_hd | refine lookM_sl rfl ?_))) rfl (by (try simp only [nfA, T_md, Nat.reduceAdd]) <;> apply rfl) ?_ | refine ld_valn rfl (by (try simp only [nfA, T_md, Nat.reduceAdd]) <;> apply rfl) ?_) | (refine is_ia ?_; first | (refine ia_elt rfl ?_ (fun _ _ => ?_))) | (refine is_fa ?_; first | refine fa_valn rfl (by (try simp only [nfA, T_md, Nat.reduceAdd]) <;> apply rfl) ?_) | (refine is_uo ?_; first | refine uo_val rfl ?_) | (refine is_pk ?_; first | refine pk_twoT rfl rfl ?_ | refine pk_twoF rfl rfl ?_ | (refine pk_case rfl ?_ ?_ <;> (intro h; subst h))) | (refine is_bi ?_; first | (refine bi_gated rfl (by (try simp only [nfA, T_md, Nat.reduceAdd]) <;> apply rfl) ?_; intro _) | refine bi_val rfl ?_ | refine bi_own rfl (by first | rfl | (repeat (first | exact lookB_hd | refine lookB_sl rfl ?_))) ?_ ?_ | refine bi_needN rfl ?_ ?_)) | refine rl_nil ?_ | (refine is_aw ?_; first | refine aw_seq ?_ | refine aw_scope ?_ | refine aw_reg rfl ?_ | refine aw_draw rfl ?_ | refine aw_condT rfl ?_ | refine aw_condF rfl ?_ | (refine aw_condN rfl ?_ ?_ <;> (intro h; subst h)) | (refine aw_cond rfl ?_ ?_ <;> (intro h; subst h)) | refine aw_skip ?_ | refine aw_ret ?_ | refine aw_exit ?_ | refine aw_block ?_ | refine aw_label ?_) | refine tq_n ?_ | refine ng_n ?_ | refine ng_r ?_ | refine ng_x ?_ | refine ⟨(rfl : regOk _ _ = true), ?_⟩ | refine tq_r ?_ | refine tq_x ?_ | refine bq_n ?_ | refine bq_x ?_ | refine bq_r ?_ | refine bq_o rfl ?_ | refine fq_r rfl ?_ | refine fq_n rfl ?_)
  refine aw_loopX (fun (n : Nat) e => ⟨[(3, .dat (I n)), (0, .dat (.lst 2 (ers l)))], [], [], e⟩) (fun n => n ≤ l.length ∧ ∀ j, j < n → fitsK (l.getD j default) = true ∧ (0 < j → lt (l.getD (j - 1) default).key (l.getD j default).key = true)) (fun n => l.length - n) 0 _ (le_of ⟨rfl, rfl, trivial⟩ trivial trivial (Nat.le_refl _)) (by simp) ?_
  rintro n e ⟨hn, hk⟩
  repeat' (first | (refine is_cons ?_; first | (refine is_g ?_; first | refine rl_on rfl rfl ?_ | refine rl_off rfl rfl ?_ | refine rl_offU rfl ?_ | (refine rl_case rfl ?_ ?_ <;> (intro h; first | subst h | (simp only [Bool.not_eq_true', Bool.not_eq_false'] at h; subst h)))) | (refine is_mv ?_; first | refine mv_val rfl ?_) | (refine is_as ?_; first | refine as_val rfl ?_ | refine as_new rfl rfl ?_) | (refine is_bo ?_; first | refine rl_binT rfl ?_ | refine rl_binF rfl ?_ | (refine rl_binB rfl ?_; intro _ _) | (refine rl_half rfl (by (try simp only [maxLen_eq, List.length_map, decide_eq_true_eq, decide_eq_false_iff_not] at *); omega) ?_) | (refine rl_binW rfl (by (try simp only [maxLen_eq, List.length_map, decide_eq_true_eq, decide_eq_false_iff_not] at *); omega) ?_) | refine bo_val rfl ?_) | (refine is_ld ?_; first | refine ld_load rfl (by first | rfl | (repeat (first | exact lookM_hd | refine lookM_sl rfl ?_))) rfl (by (try simp only [nfA, T_md, Nat.reduceAdd]) <;> apply rfl) ?_ | refine ld_valn rfl (by (try simp only [nfA, T_md, Nat.reduceAdd]) <;> apply rfl) ?_) | (refine is_ia ?_; first | (refine ia_elt rfl ?_ (fun _ _ => ?_))) | (refine is_fa ?_; first | refine fa_valn rfl (by (try simp only [nfA, T_md, Nat.reduceAdd]) <;> apply rfl) ?_) | (refine is_uo ?_; first | refine uo_val rfl ?_) | (refine is_pk ?_; first | refine pk_twoT rfl rfl ?_ | refine pk_twoF rfl rfl ?_ | (refine pk_case rfl ?_ ?_ <;> (intro h; subst h))) | (refine is_bi ?_; first | (refine bi_gated rfl (by (try simp only [nfA, T_md, Nat.reduceAdd]) <;> apply rfl) ?_; intro _) | refine bi_val rfl ?_ | refine bi_own rfl (by first | rfl | (repeat (first | exact lookB_hd | refine lookB_sl rfl ?_))) ?_ ?_ | refine bi_needN rfl ?_ ?_) | (refine is_cf 71 ?_; first | (refine cfB (f71_calls _) rfl ⟨.inl rfl, trivial⟩ ?_; intro _ _) | (refine cfB (f71_calls _) rfl ⟨(by first | exact .inl rfl | exact .inr (.inl rfl) | exact .inr (.inr ⟨_, _, rfl, rfl⟩)), trivial⟩ ?_; intro _ _)) | (refine is_cf 72 ?_; first | (refine cfB (f72_calls _ _) rfl ⟨.inl rfl, .inl rfl, trivial⟩ ?_; intro _ _) | (refine cfB (f72_calls _ _) rfl ⟨(by first | exact .inl rfl | exact .inr (.inl rfl) | exact .inr (.inr ⟨_, _, rfl, rfl⟩)), (by first | exact .inl rfl | exact .inr (.inl rfl) | exact .inr (.inr ⟨_, _, rfl, rfl⟩)), trivial⟩ ?_; intro _ _))) | refine rl_nil ?_ | (refine is_aw ?_; first | refine aw_seq ?_ | refine aw_scope ?_ | refine aw_reg rfl ?_ | refine aw_draw rfl ?_ | refine aw_condT rfl ?_ | refine aw_condF rfl ?_ | (refine aw_condN rfl ?_ ?_ <;> (intro h; subst h)) | (refine aw_cond rfl ?_ ?_ <;> (intro h; subst h)) | refine aw_skip ?_ | refine aw_ret ?_ | refine aw_exit ?_ | refine aw_block ?_ | refine aw_label ?_) | refine tq_n ?_ | refine ng_n ?_ | refine ng_r ?_ | refine ng_x ?_ | refine ⟨(rfl : regOk _ _ = true), ?_⟩ | refine tq_r ?_ | refine tq_x ?_ | refine bq_n ?_ | refine bq_x ?_ | refine bq_r ?_ | refine bq_o rfl ?_ | refine fq_r rfl ?_ | refine fq_n rfl ?_)
  all_goals try (simp only [maxLen_eq, List.length_map, decide_eq_true_eq, decide_eq_false_iff_not, Int.toNat_natCast, Bool.not_eq_true', Bool.not_eq_false', Bool.not_eq_true, Bool.not_eq_false] at *; omega)
  · rename_i hl x hx hf
    simp only [maxLen_eq, List.length_map, decide_eq_true_eq, decide_eq_false_iff_not, Int.toNat_natCast, Bool.not_eq_true', Bool.not_eq_false', Bool.not_eq_true, Bool.not_eq_false] at *
    have hx' : l.getD n default = x := by simp [List.getD, hx]
    have : rightR l = false := by
      rw [Bool.eq_false_iff]
      intro q
      have := (rightR_iff.1 q n (by omega)).1
      rw [hx', hf] at this
      cases this
    simp [normD, norm1, this]
  · rename_i hl x1 hx1 hf hz y hy x hx hc
    simp only [maxLen_eq, List.length_map, decide_eq_true_eq, decide_eq_false_iff_not, Int.toNat_natCast, Bool.not_eq_true', Bool.not_eq_false', Bool.not_eq_true, Bool.not_eq_false] at *
    rw [hx] at hx1; cases hx1
    have hx' : l.getD n default = x1 := by simp [List.getD, hx]
    have hy' : l.getD (n - 1) default = y := by
      have e : ((n : Int) - 1).toNat = n - 1 := by omega
      rw [e] at hy
      simp [List.getD, hy]
    have : rightR l = false := by
      rw [Bool.eq_false_iff]
      intro q
      have := (rightR_iff.1 q n (by omega)).2 (by omega)
      rw [hx', hy', hc] at this
      cases this
    simp [normD, norm1, this]
  · rename_i hl x1 hx1 hf hz y hy x hx hc
    simp only [maxLen_eq, List.length_map, decide_eq_true_eq, decide_eq_false_iff_not, Int.toNat_natCast, Bool.not_eq_true', Bool.not_eq_false', Bool.not_eq_true, Bool.not_eq_false] at *
    rw [hx] at hx1; cases hx1
    have hx' : l.getD n default = x1 := by simp [List.getD, hx]
    have hy' : l.getD (n - 1) default = y := by
      have e : ((n : Int) - 1).toNat = n - 1 := by omega
      rw [e] at hy
      simp [List.getD, hy]
    refine ⟨n + 1, _, by omega, le_of ⟨rfl, rfl, trivial⟩ trivial trivial (Nat.le_refl _), by omega, fun j hj => ?_⟩
    rcases Nat.lt_or_ge j n with h1 | h1
    · exact hk j h1
    · have : j = n := by omega
      subst this
      rw [hx', hy']
      exact ⟨hf, fun _ => hc⟩
  · rename_i hl x hx hf hz
    simp only [maxLen_eq, List.length_map, decide_eq_true_eq, decide_eq_false_iff_not, Int.toNat_natCast, Bool.not_eq_true', Bool.not_eq_false', Bool.not_eq_true, Bool.not_eq_false] at *
    have hx' : l.getD n default = x := by simp [List.getD, hx]
    refine ⟨n + 1, _, by omega, le_of ⟨rfl, rfl, trivial⟩ trivial trivial (Nat.le_refl _), by omega, fun j hj => ?_⟩
    rcases Nat.lt_or_ge j n with h1 | h1
    · exact hk j h1
    · have : j = n := by omega
      subst this
      rw [hx']
      exact ⟨hf, fun q => by omega⟩
  · rename_i hl
    simp only [maxLen_eq, List.length_map, decide_eq_true_eq, decide_eq_false_iff_not, Int.toNat_natCast, Bool.not_eq_true', Bool.not_eq_false', Bool.not_eq_true, Bool.not_eq_false] at *
    have : rightR l = true := rightR_iff.2 fun j hj => hk j (by omega)
    simp [normD, norm1, this]
end Go.Proofs.YtbeafnkcimfeeaaGreatDoor.AM.TT
-- tt
namespace Go.Proofs.YtbeafnkcimfeeaaGreatDoor.AM.TT
set_option linter.unusedVariables false
set_option linter.unusedSimpArgs false
open Go Go.Proofs.YtbeafnkcimfeeaaGreatDoor.AM Go.Proofs
set_option linter.unusedSimpArgs false
set_option linter.unusedVariables false
set_option maxHeartbeats 1000000
attribute [local irreducible] RunL AWp StepK OpK thenQ blockQ noGotoQ fnQ fnEQ
theorem enter61 : EnterOk Tryz.prog 61 := EnterOk_of (fn := Tryz.f61) (by kernel_rfl) (by kernel_rfl) (by kernel_rfl)
theorem f61_calls (l : List Row) (r : Row) (hs : l.length ≤ 1999999) : CallsD Tryz.prog 61 [.lst 2 (ers l), .agg (er r)] (.tup [.lst 2 (ers (putR l r (there l r.key))), .bool (there l r.key)]) := by
  refine CallsD_bd enter61 fun hbd => CallsD_of good mixed (fn := Tryz.f61) (by kernel_rfl) rfl enter61 (Nat.le_of_ble_eq_true rfl) ?_
  show AWp _ _ _ _ _ ⟨[(0, _), (1, _)], [], [], 0⟩
  have hp := place_le l r.key
  have hc102 := f59_calls l r.key
  cases ht : there l r.key
  all_goals rw [ht] at hc102
  all_goals
    repeat' (first | (refine is_cons ?_; first | (refine is_mv ?_; first | refine mv_val rfl ?_) | (refine is_as ?_; first | refine as_val rfl ?_ | refine as_new rfl rfl ?_) | (refine is_ld ?_; first | refine ld_load rfl (by first | refine lookM_hd | exact lookM_sl rfl lookM_hd | (repeat (first | refine lookM_hd | refine lookM_sl rfl ?_))) rfl (by (try simp only [nfA, T_md, Nat.reduceAdd]) <;> apply rfl) ?_ | refine ld_valn rfl (by (try simp only [nfA, T_md, Nat.reduceAdd]) <;> apply rfl) ?_) | (refine is_ex ?_; first | (refine rl_extB rfl ?_; intro _ _) | refine ex_valn rfl (by (try simp only [nfA, T_md, Nat.reduceAdd]) <;> apply rfl) ?_) | (refine is_bs ?_; first | refine bs_new rfl (by (try simp only [nfA, T_md, Nat.reduceAdd]) <;> apply rfl) ?_) | (refine is_sl ?_; first | refine sl_need rfl (by (try simp only [nfA, T_md, Nat.reduceAdd]) <;> apply rfl) ?_ ?_) | (refine is_bo ?_; first | refine rl_binT rfl ?_ | refine rl_binF rfl ?_ | (refine rl_binB rfl ?_; intro _ _) | (refine rl_half rfl (by (try simp only [maxLen_eq, List.length_map, decide_eq_true_eq, decide_eq_false_iff_not] at *); omega) ?_) | (refine rl_binW rfl (by (try simp only [maxLen_eq, List.length_map, decide_eq_true_eq, decide_eq_false_iff_not] at *); omega) ?_) | refine bo_val rfl ?_) | (refine is_fa ?_; first | refine fa_valn rfl (by (try simp only [nfA, T_md, Nat.reduceAdd]) <;> apply rfl) ?_) | (refine is_bx ?_; first | refine bx_alloc rfl (by (try simp only [nfA, T_md, Nat.reduceAdd]) <;> apply rfl) ?_) | (refine is_bi ?_; first | refine bi_val rfl ?_ | refine bi_own rfl (by first | refine lookB_hd | exact lookB_tt lookB_hd | (repeat (first | refine lookB_hd | refine lookB_sl rfl ?_))) ?_ ?_ | refine bi_needN rfl ?_ ?_ | (refine bi_gated rfl (by (try simp only [nfA, T_md, Nat.reduceAdd]) <;> apply rfl) ?_; intro _)) | (refine is_cf 59 ?_; refine cf hc102 rfl ⟨.inl rfl, .inl rfl, trivial⟩ ?_)) | refine rl_nil ?_ | (refine is_aw ?_; first | refine aw_seq ?_ | refine aw_scope ?_ | refine aw_reg rfl ?_ | refine aw_draw rfl ?_ | refine aw_condT rfl ?_ | refine aw_condF rfl ?_ | (refine aw_condN rfl ?_ ?_ <;> (intro h; subst h)) | (refine aw_cond rfl ?_ ?_ <;> (intro h; subst h)) | refine aw_skip ?_ | refine aw_ret ?_ | refine aw_exit ?_ | refine aw_block ?_ | refine aw_label ?_) | refine tq_n ?_ | refine ng_n ?_ | refine ng_r ?_ | refine ng_x ?_ | refine ⟨(rfl : regOk _ _ = true), ?_⟩ | refine tq_r ?_ | refine tq_x ?_ | refine bq_n ?_ | refine bq_x ?_ | refine bq_r ?_ | refine bq_o rfl ?_ | refine fq_r rfl ?_ | refine fq_n rfl ?_)
  all_goals (try simp only [List.length_map] at *)
  all_goals try first
    | omega
    | (have := place_lt ht; omega)
    | contradiction
  all_goals
    have e1 : ((place l r.key : Int) + 1).toNat = place l r.key + 1 := by omega
    first
    | (simp only [e1, maxLen_eq, List.length_map, List.length_append, List.length_take, List.length_drop, List.length_cons, List.length_nil] at *; omega)
    | (simp [e1, normD, norm1, putR, er]; done)
theorem enter60 : EnterOk Tryz.prog 60 := EnterOk_of (fn := Tryz.f60) (by kernel_rfl) (by kernel_rfl) (by kernel_rfl)
theorem f60_calls (l : List Row) (k : Str) (hs : l.length ≤ 1999999) : CallsD Tryz.prog 60 [.lst 2 (ers l), .str k] (.tup [.lst 2 (ers (dropR l k)), .bool (there l k)]) := by
  refine CallsD_bd enter60 fun hbd => CallsD_of good mixed (fn := Tryz.f60) (by kernel_rfl) rfl enter60 (Nat.le_of_ble_eq_true rfl) ?_
  show AWp _ _ _ _ _ ⟨[(0, _), (1, _)], [], [], 0⟩
  have hp := place_le l k
  have hc102 := f59_calls l k
  cases ht : there l k
  all_goals rw [ht] at hc102
  all_goals
    repeat' (first | (refine is_cons ?_; first | (refine is_mv ?_; first | refine mv_val rfl ?_) | (refine is_as ?_; first | refine as_val rfl ?_ | refine as_new rfl rfl ?_) | (refine is_ex ?_; first | (refine rl_extB rfl ?_; intro _ _) | refine ex_valn rfl (by (try simp only [nfA, T_md, Nat.reduceAdd]) <;> apply rfl) ?_) | (refine is_sl ?_; first | refine sl_need rfl (by (try simp only [nfA, T_md, Nat.reduceAdd]) <;> apply rfl) ?_ ?_) | (refine is_bo ?_; first | refine rl_binT rfl ?_ | refine rl_binF rfl ?_ | (refine rl_binB rfl ?_; intro _ _) | (refine rl_half rfl (by (try simp only [maxLen_eq, List.length_map, decide_eq_true_eq, decide_eq_false_iff_not] at *); omega) ?_) | (refine rl_binW rfl (by (try simp only [maxLen_eq, List.length_map, decide_eq_true_eq, decide_eq_false_iff_not] at *); omega) ?_) | refine bo_val rfl ?_) | (refine is_bs ?_; first | refine bs_new rfl (by (try simp only [nfA, T_md, Nat.reduceAdd]) <;> apply rfl) ?_) | (refine is_uo ?_; first | refine uo_val rfl ?_) | (refine is_bi ?_; first | refine bi_val rfl ?_ | refine bi_own rfl (by first | refine lookB_hd | exact lookB_tt lookB_hd | (repeat (first | refine lookB_hd | refine lookB_sl rfl ?_))) ?_ ?_ | refine bi_needN rfl ?_ ?_ | (refine bi_gated rfl (by (try simp only [nfA, T_md, Nat.reduceAdd]) <;> apply rfl) ?_; intro _)) | (refine is_cf 59 ?_; refine cf hc102 rfl ⟨.inl rfl, .inl rfl, trivial⟩ ?_)) | refine rl_nil ?_ | (refine is_aw ?_; first | refine aw_seq ?_ | refine aw_scope ?_ | refine aw_reg rfl ?_ | refine aw_draw rfl ?_ | refine aw_condT rfl ?_ | refine aw_condF rfl ?_ | (refine aw_condN rfl ?_ ?_ <;> (intro h; subst h)) | (refine aw_cond rfl ?_ ?_ <;> (intro h; subst h)) | refine aw_skip ?_ | refine aw_ret ?_ | refine aw_exit ?_ | refine aw_block ?_ | refine aw_label ?_) | refine tq_n ?_ | refine ng_n ?_ | refine ng_r ?_ | refine ng_x ?_ | refine ⟨(rfl : regOk _ _ = true), ?_⟩ | refine tq_r ?_ | refine tq_x ?_ | refine bq_n ?_ | refine bq_x ?_ | refine bq_r ?_ | refine bq_o rfl ?_ | refine fq_r rfl ?_ | refine fq_n rfl ?_)
  all_goals (try simp only [List.length_map] at *)
  all_goals try first
    | omega
    | (have := place_lt ht; omega)
    | contradiction
  all_goals
    have e1 : ((place l k : Int) + 1).toNat = place l k + 1 := by omega
    first
    | (simp only [e1, maxLen_eq, List.length_map, List.length_append, List.length_take, List.length_drop, List.length_cons, List.length_nil] at *; omega)
    | (simp [e1, normD, norm1, dropR, ht]; done)
theorem enter33 : EnterOk Tryz.prog 33 := EnterOk_of (fn := Tryz.f33) (by kernel_rfl) (by kernel_rfl) (by kernel_rfl)
theorem f33_calls (v : LView) (k : Str) : CallsD Tryz.prog 33 [.agg (ev v), .str k] (.bool (hasV v k)) := by
  refine CallsD_bd enter33 fun hbd => CallsD_of good mixed (fn := Tryz.f33) (by kernel_rfl) rfl enter33 (Nat.le_of_ble_eq_true rfl) ?_
  show AWp _ _ _ _ _ ⟨[(0, _), (1, _)], [], [], 0⟩
  repeat' (first | (refine is_cons ?_; first | (refine is_ld ?_; first | refine ld_load rfl (by first | refine lookM_hd | exact lookM_sl rfl lookM_hd | (repeat (first | refine lookM_hd | refine lookM_sl rfl ?_))) rfl (by (try simp only [nfA, T_md, Nat.reduceAdd]) <;> apply rfl) ?_ | refine ld_valn rfl (by (try simp only [nfA, T_md, Nat.reduceAdd]) <;> apply rfl) ?_) | (refine is_fa ?_; first | refine fa_valn rfl (by (try simp only [nfA, T_md, Nat.reduceAdd]) <;> apply rfl) ?_) | (refine is_as ?_; first | refine as_val rfl ?_ | refine as_new rfl rfl ?_) | (refine is_mv ?_; first | refine mv_val rfl ?_) | (refine is_bx ?_; first | refine bx_alloc rfl (by (try simp only [nfA, T_md, Nat.reduceAdd]) <;> apply rfl) ?_) | (refine is_cf 83 ?_; first | refine cf (f83_calls _ _ _ _) rfl ⟨.inl rfl, .inl rfl, .inl rfl, .inl rfl, trivial⟩ ?_ | refine cf (f83_calls _ _ _ _) rfl ⟨(by first | exact .inl rfl | exact .inr (.inl rfl) | exact .inr (.inr ⟨_, _, rfl, rfl⟩)), (by first | exact .inl rfl | exact .inr (.inl rfl) | exact .inr (.inr ⟨_, _, rfl, rfl⟩)), (by first | exact .inl rfl | exact .inr (.inl rfl) | exact .inr (.inr ⟨_, _, rfl, rfl⟩)), (by first | exact .inl rfl | exact .inr (.inl rfl) | exact .inr (.inr ⟨_, _, rfl, rfl⟩)), trivial⟩ ?_)) | refine rl_nil ?_ | (refine is_aw ?_; first | refine aw_seq ?_ | refine aw_scope ?_ | refine aw_reg rfl ?_ | refine aw_draw rfl ?_ | refine aw_condT rfl ?_ | refine aw_condF rfl ?_ | (refine aw_condN rfl ?_ ?_ <;> (intro h; subst h)) | (refine aw_cond rfl ?_ ?_ <;> (intro h; subst h)) | refine aw_skip ?_ | refine aw_ret ?_ | refine aw_exit ?_ | refine aw_block ?_ | refine aw_label ?_) | refine tq_n ?_ | refine ng_n ?_ | refine ng_r ?_ | refine ng_x ?_ | refine ⟨(rfl : regOk _ _ = true), ?_⟩ | refine tq_r ?_ | refine tq_x ?_ | refine bq_n ?_ | refine bq_x ?_ | refine bq_r ?_ | refine bq_o rfl ?_ | refine fq_r rfl ?_ | refine fq_n rfl ?_)
  all_goals rfl
theorem lookB_tt {l : List (Key × Bool)} {a k : Key} (h : lookB l k = true) : lookB ((a, true) :: l) k = true := by
  unfold lookB
  split
  · rfl
  · exact h
abbrev aheadS (l : List Row) (k : Str) (x : Nat × Key) (e : Nat) : LSt :=
  ⟨[(6, .dat (I x.1)), (0, .dat (.lst 2 (ers l))), (1, .dat (.str k)), (5, .acc x.2 2 (ers ((l.take x.1).filter fun r => lt r.key k)))], [], [(x.2, true)], e⟩
theorem filt_succ {α : Type} {l : List α} {n : Nat} {x : α} (p : α → Bool) (h : l[n]? = some x) : (l.take (n + 1)).filter p = (l.take n).filter p ++ (if p x then [x] else []) := by
  rw [List.take_add_one, h, List.filter_append]
  simp only [Option.toList_some, List.filter_cons, List.filter_nil]
theorem enter127 : EnterOk Tryz.prog 127 := EnterOk_of (fn := Tryz.f127) (by kernel_rfl) (by kernel_rfl) (by kernel_rfl)
theorem f127_calls (l : List Row) (k : Str) (hs : l.length ≤ 1999999) : CallsD Tryz.prog 127 [.lst 2 (ers l), .str k] (.lst 2 (ers (l.filter fun r => lt r.key k))) := by
  refine CallsD_bd enter127 fun hbd => CallsD_of good mixed (fn := Tryz.f127) (by kernel_rfl) rfl enter127 (Nat.le_of_ble_eq_true rfl) ?_
  show AWp _ _ _ _ _ ⟨[(0, _), (1, _)], [], [], 0⟩
  repeat' (first | (refine is_cons ?_; first | (refine is_mv ?_; first | refine mv_val rfl ?_) | (refine is_as ?_; first | refine as_val rfl ?_ | refine as_new rfl rfl ?_) | (refine is_bo ?_; first | refine rl_binT rfl ?_ | refine rl_binF rfl ?_ | (refine rl_binB rfl ?_; intro _ _) | (refine rl_half rfl (by (try simp only [maxLen_eq, List.length_map, decide_eq_true_eq, decide_eq_false_iff_not] at *); omega) ?_) | (refine rl_binW rfl (by (try simp only [maxLen_eq, List.length_map, decide_eq_true_eq, decide_eq_false_iff_not] at *); omega) ?_) | refine bo_val rfl ?_) | (refine is_ld ?_; first | refine ld_load rfl (by first | refine lookM_hd | exact lookM_sl rfl lookM_hd | (repeat (first | refine lookM_hd | refine lookM_sl rfl ?_))) rfl (by (try simp only [nfA, T_md, Nat.reduceAdd]) <;> apply rfl) ?_ | refine ld_valn rfl (by (try simp only [nfA, T_md, Nat.reduceAdd]) <;> apply rfl) ?_) | (refine is_ia ?_; first | (refine ia_elt rfl ?_ (fun _ _ => ?_))) | (refine is_fa ?_; first | refine fa_valn rfl (by (try simp only [nfA, T_md, Nat.reduceAdd]) <;> apply rfl) ?_) | (refine is_bs ?_; first | refine bs_new rfl (by (try simp only [nfA, T_md, Nat.reduceAdd]) <;> apply rfl) ?_) | (refine is_bi ?_; first | refine bi_val rfl ?_ | refine bi_own rfl (by first | refine lookB_hd | exact lookB_tt lookB_hd | (repeat (first | refine lookB_hd | refine lookB_sl rfl ?_))) ?_ ?_ | refine bi_needN rfl ?_ ?_ | (refine bi_gated rfl (by (try simp only [nfA, T_md, Nat.reduceAdd]) <;> apply rfl) ?_; intro _))) | refine rl_nil ?_ | (refine is_aw ?_; first | refine aw_seq ?_ | refine aw_scope ?_ | refine aw_reg rfl ?_ | refine aw_draw rfl ?_ | refine aw_condT rfl ?_ | refine aw_condF rfl ?_ | (refine aw_condN rfl ?_ ?_ <;> (intro h; subst h)) | (refine aw_cond rfl ?_ ?_ <;> (intro h; subst h)) | refine aw_skip ?_ | refine aw_ret ?_ | refine aw_exit ?_ | refine aw_block ?_ | refine aw_label ?_) | refine tq_n ?_ | refine ng_n ?_ | refine ng_r ?_ | refine ng_x ?_ | refine ⟨(rfl : regOk _ _ = true), ?_⟩ | refine tq_r ?_ | refine tq_x ?_ | refine bq_n ?_ | refine bq_x ?_ | refine bq_r ?_ | refine bq_o rfl ?_ | refine fq_r rfl ?_ | refine fq_n rfl ?_)
  refine aw_loopX (aheadS l k) (fun x => x.1 ≤ l.length) (fun x => l.length - x.1) (0, (5, 0, 2)) _ (le_of ⟨rfl, rfl, rfl, rfl, trivial⟩ trivial ⟨rfl, trivial⟩ (Nat.le_refl _)) (by simp) ?_
  rintro ⟨n, t⟩ e hn
  have hfl : ((l.take n).filter fun r => lt r.key k).length ≤ 1999999 := by
    have h1 := List.length_filter_le (fun r : Row => lt r.key k) (l.take n)
    have h2 := List.length_take_le n l
    omega
  dsimp only at hn ⊢
  repeat' (first | (refine is_cons ?_; first | (refine is_mv ?_; first | refine mv_val rfl ?_) | (refine is_as ?_; first | refine as_val rfl ?_ | refine as_new rfl rfl ?_) | (refine is_bo ?_; first | refine rl_binT rfl ?_ | refine rl_binF rfl ?_ | (refine rl_binB rfl ?_; intro _ _) | (refine rl_half rfl (by (try simp only [maxLen_eq, List.length_map, decide_eq_true_eq, decide_eq_false_iff_not] at *); omega) ?_) | (refine rl_binW rfl (by (try simp only [maxLen_eq, List.length_map, decide_eq_true_eq, decide_eq_false_iff_not] at *); omega) ?_) | refine bo_val rfl ?_) | (refine is_ld ?_; first | refine ld_load rfl (by first | refine lookM_hd | exact lookM_sl rfl lookM_hd | (repeat (first | refine lookM_hd | refine lookM_sl rfl ?_))) rfl (by (try simp only [nfA, T_md, Nat.reduceAdd]) <;> apply rfl) ?_ | refine ld_valn rfl (by (try simp only [nfA, T_md, Nat.reduceAdd]) <;> apply rfl) ?_) | (refine is_ia ?_; first | (refine ia_elt rfl ?_ (fun _ _ => ?_))) | (refine is_fa ?_; first | refine fa_valn rfl (by (try simp only [nfA, T_md, Nat.reduceAdd]) <;> apply rfl) ?_) | (refine is_bs ?_; first | refine bs_new rfl (by (try simp only [nfA, T_md, Nat.reduceAdd]) <;> apply rfl) ?_) | (refine is_bi ?_; first | refine bi_val rfl ?_ | refine bi_own rfl (by first | refine lookB_hd | exact lookB_tt lookB_hd | (repeat (first | refine lookB_hd | refine lookB_sl rfl ?_))) ?_ ?_ | refine bi_needN rfl ?_ ?_ | (refine bi_gated rfl (by (try simp only [nfA, T_md, Nat.reduceAdd]) <;> apply rfl) ?_; intro _)) | (refine is_cf 72 ?_; first | (refine cfB (f72_calls _ _) rfl ⟨.inl rfl, .inl rfl, trivial⟩ ?_; intro _ _) | (refine cfB (f72_calls _ _) rfl ⟨(by first | exact .inl rfl | exact .inr (.inl rfl) | exact .inr (.inr ⟨_, _, rfl, rfl⟩)), (by first | exact .inl rfl | exact .inr (.inl rfl) | exact .inr (.inr ⟨_, _, rfl, rfl⟩)), trivial⟩ ?_; intro _ _))) | refine rl_nil ?_ | (refine is_aw ?_; first | refine aw_seq ?_ | refine aw_scope ?_ | refine aw_reg rfl ?_ | refine aw_draw rfl ?_ | refine aw_condT rfl ?_ | refine aw_condF rfl ?_ | (refine aw_condN rfl ?_ ?_ <;> (intro h; subst h)) | (refine aw_cond rfl ?_ ?_ <;> (intro h; subst h)) | refine aw_skip ?_ | refine aw_ret ?_ | refine aw_exit ?_ | refine aw_block ?_ | refine aw_label ?_) | refine tq_n ?_ | refine ng_n ?_ | refine ng_r ?_ | refine ng_x ?_ | refine ⟨(rfl : regOk _ _ = true), ?_⟩ | refine tq_r ?_ | refine tq_x ?_ | refine bq_n ?_ | refine bq_x ?_ | refine bq_r ?_ | refine bq_o rfl ?_ | refine fq_r rfl ?_ | refine fq_n rfl ?_)
  all_goals try (simp only [maxLen_eq, List.length_map, decide_eq_true_eq, decide_eq_false_iff_not, Int.toNat_natCast, Bool.not_eq_true', Bool.not_eq_false', Bool.not_eq_true, Bool.not_eq_false] at *; omega)
  · simp only [maxLen_eq, List.length_map, decide_eq_true_eq, decide_eq_false_iff_not, Int.toNat_natCast, Bool.not_eq_true', Bool.not_eq_false', Bool.not_eq_true, Bool.not_eq_false] at *; simp only [ers, List.length_map, List.length_cons, List.length_nil]; omega
  · rename_i hl x1 hx1 hc x hx
    simp only [maxLen_eq, List.length_map, decide_eq_true_eq, decide_eq_false_iff_not, Int.toNat_natCast, Bool.not_eq_true', Bool.not_eq_false', Bool.not_eq_true, Bool.not_eq_false] at *
    rw [hx] at hx1; cases hx1
    exact ⟨(n + 1, _), _, by dsimp only; omega, le_of ⟨rfl, rfl, rfl, by rw [filt_succ _ hx, hc, if_pos rfl]; simp only [ers, List.map_append]; rfl, trivial⟩ trivial ⟨lookB_hd, trivial⟩ (Nat.le_refl _), by dsimp only; omega⟩
  · rename_i hl x hx hc
    simp only [maxLen_eq, List.length_map, decide_eq_true_eq, decide_eq_false_iff_not, Int.toNat_natCast, Bool.not_eq_true', Bool.not_eq_false', Bool.not_eq_true, Bool.not_eq_false] at *
    exact ⟨(n + 1, t), _, by dsimp only; omega, le_of ⟨rfl, rfl, rfl, by rw [filt_succ _ hx, hc, if_neg (by simp), List.append_nil]; rfl, trivial⟩ trivial ⟨lookB_hd, trivial⟩ (Nat.le_refl _), by dsimp only; omega⟩
  · simp only [maxLen_eq, List.length_map, decide_eq_true_eq, decide_eq_false_iff_not, Int.toNat_natCast, Bool.not_eq_true', Bool.not_eq_false', Bool.not_eq_true, Bool.not_eq_false] at *
    obtain rfl : n = l.length := by omega
    simp [normD, norm1]
theorem all_no {l : List Row} {low high : Str} {u : Bool} {n : Nat} {x : Row} (hx : l[n]? = some x) (hf : inS low high u x.key = false) : (l.all fun r => inS low high u r.key) = false := by
  rw [Bool.eq_false_iff]
  intro q
  rw [List.all_eq_true] at q
  have := q x (List.mem_of_getElem? hx)
  rw [hf] at this
  cases this
theorem all_yes {l : List Row} {low high : Str} {u : Bool} {n : Nat} (hk : ∀ j : Nat, j < n → inS low high u (l.getD j default).key = true) (hn : l.length ≤ n) : (l.all fun r => inS low high u r.key) = true := by
  rw [List.all_eq_true]
  intro x hx
  obtain ⟨j, hj⟩ := List.getElem?_of_mem hx
  have hlt := (List.getElem?_eq_some_iff.1 hj).1
  have := hk j (by omega)
  simpa [List.getD, hj] using this
theorem enter126 : EnterOk Tryz.prog 126 := EnterOk_of (fn := Tryz.f126) (by kernel_rfl) (by kernel_rfl) (by kernel_rfl)
theorem f126_calls (l : List Row) (low high : Str) (u : Bool) : CallsD Tryz.prog 126 [.lst 2 (ers l), .str low, .str high, .bool u] (.bool (soundL l low high u)) := by
  refine CallsD_bd enter126 fun hbd => CallsD_of good mixed (fn := Tryz.f126) (by kernel_rfl) rfl enter126 (Nat.le_of_ble_eq_true rfl) ?_
  show AWp _ _ _ _ _ ⟨[(0, _), (1, _), (2, _), (3, _)], [], [], 0⟩
  obtain ⟨u', hu⟩ : ∃ x, x = u := ⟨_, rfl⟩
  repeat' (first | (refine is_cons ?_; first | (refine is_g ?_; first | refine rl_on rfl rfl ?_ | refine rl_off rfl rfl ?_ | refine rl_offU rfl ?_ | (refine rl_case rfl ?_ ?_ <;> (intro h; first | subst h | (simp only [Bool.not_eq_true', Bool.not_eq_false'] at h; subst h)))) | (refine is_mv ?_; first | refine mv_val rfl ?_) | (refine is_as ?_; first | refine as_val rfl ?_ | refine as_new rfl rfl ?_) | (refine is_bo ?_; first | refine rl_binT rfl ?_ | refine rl_binF rfl ?_ | (refine rl_binB rfl ?_; intro _ _) | (refine rl_half rfl (by (try simp only [maxLen_eq, List.length_map, decide_eq_true_eq, decide_eq_false_iff_not] at *); omega) ?_) | (refine rl_binW rfl (by (try simp only [maxLen_eq, List.length_map, decide_eq_true_eq, decide_eq_false_iff_not] at *); omega) ?_) | refine bo_val rfl ?_) | (refine is_pk ?_; first | refine pk_twoT rfl rfl ?_ | refine pk_twoF rfl rfl ?_ | (refine pk_case rfl ?_ ?_ <;> (intro h; subst h))) | (refine is_uo ?_; first | refine uo_val rfl ?_) | (refine is_ld ?_; first | refine ld_load rfl (by first | refine lookM_hd | exact lookM_sl rfl lookM_hd | (repeat (first | refine lookM_hd | refine lookM_sl rfl ?_))) rfl (by (try simp only [nfA, T_md, Nat.reduceAdd]) <;> apply rfl) ?_ | refine ld_valn rfl (by (try simp only [nfA, T_md, Nat.reduceAdd]) <;> apply rfl) ?_) | (refine is_fa ?_; first | refine fa_valn rfl (by (try simp only [nfA, T_md, Nat.reduceAdd]) <;> apply rfl) ?_) | (refine is_ia ?_; first | (refine ia_elt rfl ?_ (fun _ _ => ?_))) | (refine is_bi ?_; first | refine bi_val rfl ?_ | refine bi_own rfl (by first | refine lookB_hd | exact lookB_tt lookB_hd | (repeat (first | refine lookB_hd | refine lookB_sl rfl ?_))) ?_ ?_ | refine bi_needN rfl ?_ ?_ | (refine bi_gated rfl (by (try simp only [nfA, T_md, Nat.reduceAdd]) <;> apply rfl) ?_; intro _)) | (refine is_cf 23 ?_; first | (refine cfB (f23_calls _) rfl ⟨.inl rfl, trivial⟩ ?_; intro _ _) | (refine cfB (f23_calls _) rfl ⟨(by first | exact .inl rfl | exact .inr (.inl rfl) | exact .inr (.inr ⟨_, _, rfl, rfl⟩)), trivial⟩ ?_; intro _ _))) | refine rl_nil ?_ | (refine is_aw ?_; first | refine aw_seq ?_ | refine aw_scope ?_ | refine aw_reg rfl ?_ | refine aw_draw rfl ?_ | refine aw_condT rfl ?_ | refine aw_condF rfl ?_ | (refine aw_condN rfl ?_ ?_ <;> (intro h; subst h)) | (refine aw_cond rfl ?_ ?_ <;> (intro h; subst h)) | refine aw_skip ?_ | refine aw_ret ?_ | refine aw_exit ?_ | refine aw_block ?_ | refine aw_label ?_) | refine tq_n ?_ | refine ng_n ?_ | refine ng_r ?_ | refine ng_x ?_ | refine ⟨(rfl : regOk _ _ = true), ?_⟩ | refine tq_r ?_ | refine tq_x ?_ | refine bq_n ?_ | refine bq_x ?_ | refine bq_r ?_ | refine bq_o rfl ?_ | refine fq_r rfl ?_ | refine fq_n rfl ?_)
  all_goals try (simp_all [normD, norm1, soundL]; done)
  all_goals
    have hR : soundL l low high u' = l.all fun r => inS low high u' r.key := by
      simp_all [soundL]
    refine aw_loopX (fun (n : Nat) e => ⟨[(9, .dat (I n)), (0, .dat (.lst 2 (ers l))), (1, .dat (.str low)), (2, .dat (.str high)), (3, .dat (.bool u'))], [], [], e⟩) (fun n => n ≤ l.length ∧ ∀ j, j < n → inS low high u' (l.getD j default).key = true) (fun n => l.length - n) 0 _ (le_of ⟨rfl, rfl, rfl, rfl, (by rw [hu]; rfl), trivial⟩ trivial trivial (Nat.le_refl _)) (by simp) ?_
    rintro n e ⟨hn, hk⟩
    subst hu
    rw [hR]
    clear hR hbd
    repeat' (first | (refine is_cons ?_; first | (refine is_g ?_; first | refine rl_on rfl rfl ?_ | refine rl_off rfl rfl ?_ | refine rl_offU rfl ?_ | (refine rl_case rfl ?_ ?_ <;> (intro h; first | subst h | (simp only [Bool.not_eq_true', Bool.not_eq_false'] at h; subst h)))) | (refine is_mv ?_; first | refine mv_val rfl ?_) | (refine is_as ?_; first | refine as_val rfl ?_ | refine as_new rfl rfl ?_) | (refine is_bo ?_; first | refine rl_binT rfl ?_ | refine rl_binF rfl ?_ | (refine rl_binB rfl ?_; intro _ _) | (refine rl_half rfl (by (try simp only [maxLen_eq, List.length_map, decide_eq_true_eq, decide_eq_false_iff_not] at *); omega) ?_) | (refine rl_binW rfl (by (try simp only [maxLen_eq, List.length_map, decide_eq_true_eq, decide_eq_false_iff_not] at *); omega) ?_) | refine bo_val rfl ?_) | (refine is_pk ?_; first | refine pk_twoT rfl rfl ?_ | refine pk_twoF rfl rfl ?_ | (refine pk_case rfl ?_ ?_ <;> (intro h; subst h))) | (refine is_uo ?_; first | refine uo_val rfl ?_) | (refine is_ld ?_; first | refine ld_load rfl (by first | refine lookM_hd | exact lookM_sl rfl lookM_hd | (repeat (first | refine lookM_hd | refine lookM_sl rfl ?_))) rfl (by (try simp only [nfA, T_md, Nat.reduceAdd]) <;> apply rfl) ?_ | refine ld_valn rfl (by (try simp only [nfA, T_md, Nat.reduceAdd]) <;> apply rfl) ?_) | (refine is_fa ?_; first | refine fa_valn rfl (by (try simp only [nfA, T_md, Nat.reduceAdd]) <;> apply rfl) ?_) | (refine is_ia ?_; first | (refine ia_elt rfl ?_ (fun _ _ => ?_))) | (refine is_bi ?_; first | refine bi_val rfl ?_ | refine bi_own rfl (by first | refine lookB_hd | exact lookB_tt lookB_hd | (repeat (first | refine lookB_hd | refine lookB_sl rfl ?_))) ?_ ?_ | refine bi_needN rfl ?_ ?_ | (refine bi_gated rfl (by (try simp only [nfA, T_md, Nat.reduceAdd]) <;> apply rfl) ?_; intro _)) | (refine is_cf 83 ?_; first | (refine cfB (f83_calls _ _ _ _) rfl ⟨.inl rfl, .inl rfl, .inl rfl, .inl rfl, trivial⟩ ?_; intro _ _) | (refine cfB (f83_calls _ _ _ _) rfl ⟨(by first | exact .inl rfl | exact .inr (.inl rfl) | exact .inr (.inr ⟨_, _, rfl, rfl⟩)), (by first | exact .inl rfl | exact .inr (.inl rfl) | exact .inr (.inr ⟨_, _, rfl, rfl⟩)), (by first | exact .inl rfl | exact .inr (.inl rfl) | exact .inr (.inr ⟨_, _, rfl, rfl⟩)), (by first | exact .inl rfl | exact .inr (.inl rfl) | exact .inr (.inr ⟨_, _, rfl, rfl⟩)), trivial⟩ ?_; intro _ _))) | refine rl_nil ?_ | (refine is_aw ?_; first | refine aw_seq ?_ | refine aw_scope ?_ | refine aw_reg rfl ?_ | refine aw_draw rfl ?_ | refine aw_condT rfl ?_ | refine aw_condF rfl ?_ | (refine aw_condN rfl ?_ ?_ <;> (intro h; subst h)) | (refine aw_cond rfl ?_ ?_ <;> (intro h; subst h)) | refine aw_skip ?_ | refine aw_ret ?_ | refine aw_exit ?_ | refine aw_block ?_ | refine aw_label ?_) | refine tq_n ?_ | refine ng_n ?_ | refine ng_r ?_ | refine ng_x ?_ | refine ⟨(rfl : regOk _ _ = true), ?_⟩ | refine tq_r ?_ | refine tq_x ?_ | refine bq_n ?_ | refine bq_x ?_ | refine bq_r ?_ | refine bq_o rfl ?_ | refine fq_r rfl ?_ | refine fq_n rfl ?_)
  all_goals try (simp only [maxLen_eq, List.length_map, decide_eq_true_eq, decide_eq_false_iff_not, Int.toNat_natCast, Bool.not_eq_true', Bool.not_eq_false', Bool.not_eq_true, Bool.not_eq_false] at *; omega)
  all_goals first
    | (rename_i hl x hx hf
       simp only [maxLen_eq, List.length_map, decide_eq_true_eq, decide_eq_false_iff_not, Int.toNat_natCast, Bool.not_eq_true', Bool.not_eq_false', Bool.not_eq_true, Bool.not_eq_false] at *
       have hx' : l.getD n default = x := by simp [List.getD, hx]
       exact (congrArg DV.bool (all_no hx hf)).symm)
    | (rename_i hl x hx hf
       simp only [maxLen_eq, List.length_map, decide_eq_true_eq, decide_eq_false_iff_not, Int.toNat_natCast, Bool.not_eq_true', Bool.not_eq_false', Bool.not_eq_true, Bool.not_eq_false] at *
       have hx' : l.getD n default = x := by simp [List.getD, hx]
       refine ⟨n + 1, _, by omega, le_of ⟨rfl, rfl, rfl, rfl, rfl, trivial⟩ trivial trivial (Nat.le_refl _), by omega, fun j hj => ?_⟩
       rcases Nat.lt_or_ge j n with h1 | h1
       · exact hk j h1
       · have : j = n := by omega
         subst this
         rw [hx']; exact hf)
    | (simp only [maxLen_eq, List.length_map, decide_eq_true_eq, decide_eq_false_iff_not, Int.toNat_natCast, Bool.not_eq_true', Bool.not_eq_false', Bool.not_eq_true, Bool.not_eq_false] at *
       exact (congrArg DV.bool (all_yes hk (by omega))).symm)
end Go.Proofs.YtbeafnkcimfeeaaGreatDoor.AM.TT
-- tt
namespace Go.Proofs.YtbeafnkcimfeeaaGreatDoor.AM.TT
set_option linter.unusedVariables false
set_option linter.unusedSimpArgs false
open Go Go.Proofs.YtbeafnkcimfeeaaGreatDoor.AM Go.Proofs
set_option linter.unusedSimpArgs false
set_option linter.unusedVariables false
set_option maxHeartbeats 2000000
attribute [local irreducible] RunL AWp StepK OpK thenQ blockQ noGotoQ fnQ fnEQ
def encRF (x : Except Int LView) : DV := match x with | .ok w => .tup [.agg (ev w), I 0] | .error c => .tup [.agg (ev noView), I c]
def cellsV (v : LView) (c : Option Key) : List PV := [.dat (.str v.low), .dat (.str v.high), .dat (.bool v.unb), .dat (I v.right), (match c with | none => .dat (.lst 2 (ers v.rows)) | some t => .acc t 2 (ers v.rows)), .dat (.bool v.gone)]
theorem ex_mk {α : Type} {P : α → Nat → Prop} (y : α) (e' : Nat) (h : P y e') : ∃ y e', P y e' := ⟨y, e', h⟩
theorem lk_int {env : List (Nat × PV)} {n : Nat} {k : IntKind} {a b : Int} (h : lookE env n = some (.dat (.int k a))) (e : a = b) : lookE env n = some (.dat (.int k b)) := by rw [h, e]
theorem cells_app (lo hi : Str) (un : Bool) (ri : Int) (a b : List Row) (g : Bool) (t : Key) : [PV.dat (.str lo), .dat (.str hi), .dat (.bool un), .dat (I ri), .acc t 2 ([] ++ ers a ++ ers b), .dat (.bool g)] = cellsV ⟨lo, hi, un, ri, a ++ b, g⟩ (some t) := by simp [cellsV, ers]
theorem lk_bool {env : List (Nat × PV)} {n : Nat} {b b' : Bool} (h : lookE env n = some (.dat (.bool b))) (e : b = b') : lookE env n = some (.dat (.bool b')) := by rw [h, e]
theorem lk_mem {mem : List (Key × List PV)} {k : Key} {cs cs' : List PV} (h : lookM mem k = some cs) (e : cs = cs') : lookM mem k = some cs' := by rw [h, e]
abbrev zeroW : List PV := [.dat (.str []), .dat (.str []), .dat (.bool false), .dat (I 0), .dat (.nil 2), .dat (.bool false)]
theorem enter76 : EnterOk Tryz.prog 76 := EnterOk_of (fn := Tryz.f76) (by kernel_rfl) (by kernel_rfl) (by kernel_rfl)
theorem f76_calls (l : List Rec) (hs : szL l l.length ≤ 900000) : CallsD Tryz.prog 76 [.lst 15 (ecs l)] (encRF (foldL l)) := by
  refine CallsD_bd enter76 fun hbd => CallsD_of good mixed (fn := Tryz.f76) (by kernel_rfl) rfl enter76 (Nat.le_of_ble_eq_true rfl) ?_
  show AWp _ _ _ _ _ ⟨[(0, _)], [], [], 0⟩
  have hln := szL_len l
  repeat' (first | (refine is_cons ?_; first | (refine is_g ?_; first | refine rl_on rfl rfl ?_ | refine rl_off rfl rfl ?_ | refine rl_offU rfl ?_ | (refine rl_case rfl ?_ ?_ <;> (intro h; first | subst h | (simp only [Bool.not_eq_true', Bool.not_eq_false'] at h; subst h)))) | (refine is_fa ?_; first | refine fa_valn rfl (by (try simp only [nfA, T_md, Nat.reduceAdd]) <;> apply rfl) ?_) | (refine is_ld ?_; first | refine ld_load rfl (by first | refine lookM_hd | exact lookM_sl rfl lookM_hd | (repeat (first | refine lookM_hd | refine lookM_sl rfl ?_))) rfl (by (try simp only [nfA, T_md, Nat.reduceAdd]) <;> apply rfl) ?_ | refine ld_valn rfl (by (try simp only [nfA, T_md, Nat.reduceAdd]) <;> apply rfl) ?_) | (refine is_mv ?_; first | refine mv_val rfl ?_) | (refine is_bo ?_; first | refine rl_binT rfl ?_ | refine rl_binF rfl ?_ | (refine rl_binB rfl ?_; intro _ _) | (refine rl_half rfl (by (try simp only [maxLen_eq, List.length_map, decide_eq_true_eq, decide_eq_false_iff_not] at *); omega) ?_) | (refine rl_binW rfl (by (try simp only [maxLen_eq, List.length_map, decide_eq_true_eq, decide_eq_false_iff_not] at *); omega) ?_) | refine bo_val rfl ?_) | (refine is_st ?_; first | refine st_store rfl (by first | refine lookM_hd | exact lookM_sl rfl lookM_hd | (repeat (first | refine lookM_hd | refine lookM_sl rfl ?_))) rfl (by (try simp only [nfA, T_md, Nat.reduceAdd]) <;> apply rfl) ?_) | (refine is_as ?_; first | refine as_val rfl ?_ | refine as_new rfl rfl ?_) | (refine is_pk ?_; first | refine pk_twoT rfl rfl ?_ | refine pk_twoF rfl rfl ?_ | (refine pk_case rfl ?_ ?_ <;> (intro h; subst h))) | (refine is_bd ?_; first | refine bd_valn rfl (by (try simp only [nfA, T_md, Nat.reduceAdd]) <;> apply rfl) ?_) | (refine is_ia ?_; first | (refine ia_elt rfl ?_ (fun _ _ => ?_))) | (refine is_al ?_; first | refine al_alloc rfl (by (try simp only [nfA, T_md, Nat.reduceAdd]) <;> apply rfl) ?_) | (refine is_ex ?_; first | (refine rl_extB rfl ?_; intro _ _) | refine ex_valn rfl (by (try simp only [nfA, T_md, Nat.reduceAdd]) <;> apply rfl) ?_) | (refine is_uo ?_; first | refine uo_val rfl ?_) | (refine is_bs ?_; first | refine bs_new rfl (by (try simp only [nfA, T_md, Nat.reduceAdd]) <;> apply rfl) ?_) | (refine is_bi ?_; first | refine bi_val rfl ?_ | refine bi_own rfl (by first | refine lookB_hd | exact lookB_tt lookB_hd | (repeat (first | refine lookB_hd | refine lookB_sl rfl ?_))) ?_ ?_ | refine bi_needN rfl ?_ ?_ | (refine bi_gated rfl (by (try simp only [nfA, T_md, Nat.reduceAdd]) <;> apply rfl) ?_; intro _))) | refine rl_nil ?_ | (refine is_aw ?_; first | refine aw_seq ?_ | refine aw_scope ?_ | refine aw_reg rfl ?_ | refine aw_draw rfl ?_ | refine aw_condT rfl ?_ | refine aw_condF rfl ?_ | (refine aw_condN rfl ?_ ?_ <;> (intro h; subst h)) | (refine aw_cond rfl ?_ ?_ <;> (intro h; subst h)) | refine aw_skip ?_ | refine aw_ret ?_ | refine aw_exit ?_ | refine aw_block ?_ | refine aw_label ?_) | refine tq_n ?_ | refine ng_n ?_ | refine ng_r ?_ | refine ng_x ?_ | refine ⟨(rfl : regOk _ _ = true), ?_⟩ | refine tq_r ?_ | refine tq_x ?_ | refine bq_n ?_ | refine bq_x ?_ | refine bq_r ?_ | refine bq_o rfl ?_ | refine fq_r rfl ?_ | refine fq_n rfl ?_)
  refine aw_loopX (fun (n : Nat) e => ⟨[(4, .dat (I n)), (0, .dat (.lst 15 (ecs l))), (2, .ptr (2, 0, 1) 0)], [((2, 0, 1), zeroW)], [], e⟩) (fun n => n ≤ l.length ∧ ∀ j, j < n → kindL (l.getD j default) = true) (fun n => l.length - n) 0 _ (le_of ⟨rfl, rfl, rfl, trivial⟩ ⟨rfl, trivial⟩ trivial (Nat.le_refl _)) (by simp) ?_
  rintro n e ⟨hn, hk⟩
  repeat' (first | (refine is_cons ?_; first | (refine is_g ?_; first | refine rl_on rfl rfl ?_ | refine rl_off rfl rfl ?_ | refine rl_offU rfl ?_ | (refine rl_case rfl ?_ ?_ <;> (intro h; first | subst h | (simp only [Bool.not_eq_true', Bool.not_eq_false'] at h; subst h)))) | (refine is_fa ?_; first | refine fa_valn rfl (by (try simp only [nfA, T_md, Nat.reduceAdd]) <;> apply rfl) ?_) | (refine is_ld ?_; first | refine ld_load rfl (by first | refine lookM_hd | exact lookM_sl rfl lookM_hd | (repeat (first | refine lookM_hd | refine lookM_sl rfl ?_))) rfl (by (try simp only [nfA, T_md, Nat.reduceAdd]) <;> apply rfl) ?_ | refine ld_valn rfl (by (try simp only [nfA, T_md, Nat.reduceAdd]) <;> apply rfl) ?_) | (refine is_mv ?_; first | refine mv_val rfl ?_) | (refine is_bo ?_; first | refine rl_binT rfl ?_ | refine rl_binF rfl ?_ | (refine rl_binB rfl ?_; intro _ _) | (refine rl_half rfl (by (try simp only [maxLen_eq, List.length_map, decide_eq_true_eq, decide_eq_false_iff_not] at *); omega) ?_) | (refine rl_binW rfl (by (try simp only [maxLen_eq, List.length_map, decide_eq_true_eq, decide_eq_false_iff_not] at *); omega) ?_) | refine bo_val rfl ?_) | (refine is_st ?_; first | refine st_store rfl (by first | refine lookM_hd | exact lookM_sl rfl lookM_hd | (repeat (first | refine lookM_hd | refine lookM_sl rfl ?_))) rfl (by (try simp only [nfA, T_md, Nat.reduceAdd]) <;> apply rfl) ?_) | (refine is_as ?_; first | refine as_val rfl ?_ | refine as_new rfl rfl ?_) | (refine is_pk ?_; first | refine pk_twoT rfl rfl ?_ | refine pk_twoF rfl rfl ?_ | (refine pk_case rfl ?_ ?_ <;> (intro h; subst h))) | (refine is_bd ?_; first | refine bd_valn rfl (by (try simp only [nfA, T_md, Nat.reduceAdd]) <;> apply rfl) ?_) | (refine is_ia ?_; first | (refine ia_elt rfl ?_ (fun _ _ => ?_))) | (refine is_al ?_; first | refine al_alloc rfl (by (try simp only [nfA, T_md, Nat.reduceAdd]) <;> apply rfl) ?_) | (refine is_ex ?_; first | (refine rl_extB rfl ?_; intro _ _) | refine ex_valn rfl (by (try simp only [nfA, T_md, Nat.reduceAdd]) <;> apply rfl) ?_) | (refine is_uo ?_; first | refine uo_val rfl ?_) | (refine is_bs ?_; first | refine bs_new rfl (by (try simp only [nfA, T_md, Nat.reduceAdd]) <;> apply rfl) ?_) | (refine is_bi ?_; first | refine bi_val rfl ?_ | refine bi_own rfl (by first | refine lookB_hd | exact lookB_tt lookB_hd | (repeat (first | refine lookB_hd | refine lookB_sl rfl ?_))) ?_ ?_ | refine bi_needN rfl ?_ ?_ | (refine bi_gated rfl (by (try simp only [nfA, T_md, Nat.reduceAdd]) <;> apply rfl) ?_; intro _))) | refine rl_nil ?_ | (refine is_aw ?_; first | refine aw_seq ?_ | refine aw_scope ?_ | refine aw_reg rfl ?_ | refine aw_draw rfl ?_ | refine aw_condT rfl ?_ | refine aw_condF rfl ?_ | (refine aw_condN rfl ?_ ?_ <;> (intro h; subst h)) | (refine aw_cond rfl ?_ ?_ <;> (intro h; subst h)) | refine aw_skip ?_ | refine aw_ret ?_ | refine aw_exit ?_ | refine aw_block ?_ | refine aw_label ?_) | refine tq_n ?_ | refine ng_n ?_ | refine ng_r ?_ | refine ng_x ?_ | refine ⟨(rfl : regOk _ _ = true), ?_⟩ | refine tq_r ?_ | refine tq_x ?_ | refine bq_n ?_ | refine bq_x ?_ | refine bq_r ?_ | refine bq_o rfl ?_ | refine fq_r rfl ?_ | refine fq_n rfl ?_)
  all_goals try (simp only [maxLen_eq, List.length_map, decide_eq_true_eq, decide_eq_false_iff_not, Int.toNat_natCast, Bool.not_eq_true', Bool.not_eq_false', Bool.not_eq_true, Bool.not_eq_false] at *; omega)
  · rename_i hl x hx hc
    simp only [maxLen_eq, List.length_map, decide_eq_true_eq, decide_eq_false_iff_not, Int.toNat_natCast, Bool.not_eq_true', Bool.not_eq_false', Bool.not_eq_true, Bool.not_eq_false] at *
    rw [foldL_kind hx (by simp [kindL]; omega)]; rfl
  · rename_i hl y hy hc x hx hd
    simp only [maxLen_eq, List.length_map, decide_eq_true_eq, decide_eq_false_iff_not, Int.toNat_natCast, Bool.not_eq_true', Bool.not_eq_false', Bool.not_eq_true, Bool.not_eq_false] at *
    rw [foldL_kind hx (by simp [kindL]; omega)]; rfl
  · rename_i hl y hy hc x hx hd
    simp only [maxLen_eq, List.length_map, decide_eq_true_eq, decide_eq_false_iff_not, Int.toNat_natCast, Bool.not_eq_true', Bool.not_eq_false', Bool.not_eq_true, Bool.not_eq_false] at *
    rw [hx] at hy; cases hy
    refine ⟨n + 1, _, by omega, le_of ⟨rfl, rfl, rfl, trivial⟩ ⟨rfl, trivial⟩ trivial (Nat.le_refl _), by omega, fun j hj => ?_⟩
    rcases Nat.lt_or_ge j n with q | q
    · exact hk j q
    · obtain rfl : j = n := by omega
      have hx' : l.getD j default = y := by simp [List.getD, hx]
      rw [hx']
      simp [kindL]; omega
  · rename_i hl _ hc
    simp only [maxLen_eq, List.length_map, decide_eq_true_eq, decide_eq_false_iff_not, Int.toNat_natCast, Bool.not_eq_true', Bool.not_eq_false', Bool.not_eq_true, Bool.not_eq_false] at *
    have : foldL l = .error 10 := by
      have : l = [] := List.length_eq_zero_iff.1 (by omega)
      subst this; rfl
    rw [this]; rfl
  rename_i hl _ hc
  simp only [maxLen_eq, List.length_map, decide_eq_true_eq, decide_eq_false_iff_not, Int.toNat_natCast, Bool.not_eq_true', Bool.not_eq_false', Bool.not_eq_true, Bool.not_eq_false] at *
  have hall : ∀ j, j < l.length → kindL (l.getD j default) = true := fun j hj => hk j (by omega)
  have hpos : 0 < l.length := by omega
  clear hk
  refine aw_loopX (fun (n : Nat) e => ⟨[(5, .dat (I n)), (0, .dat (.lst 15 (ecs l))), (2, .ptr (2, 0, 1) 0)], [((2, 0, 1), zeroW)], [], e⟩) (fun n => n ≤ l.length ∧ ∀ j, j < n → ((l.getD j default).kind = 1 ↔ j = l.length - 1) ∧ ((l.getD j default).kind = 5 → j = 0)) (fun n => l.length - n) 0 _ (le_of ⟨rfl, rfl, rfl, trivial⟩ ⟨rfl, trivial⟩ trivial (Nat.le_refl _)) (by simp) ?_
  rintro n e ⟨hn, hk⟩
  repeat' (first | (refine is_cons ?_; first | (refine is_g ?_; first | refine rl_on rfl rfl ?_ | refine rl_off rfl rfl ?_ | refine rl_offU rfl ?_ | (refine rl_case rfl ?_ ?_ <;> (intro h; first | subst h | (simp only [Bool.not_eq_true', Bool.not_eq_false'] at h; subst h)))) | (refine is_fa ?_; first | refine fa_valn rfl (by (try simp only [nfA, T_md, Nat.reduceAdd]) <;> apply rfl) ?_) | (refine is_ld ?_; first | refine ld_load rfl (by first | refine lookM_hd | exact lookM_sl rfl lookM_hd | (repeat (first | refine lookM_hd | refine lookM_sl rfl ?_))) rfl (by (try simp only [nfA, T_md, Nat.reduceAdd]) <;> apply rfl) ?_ | refine ld_valn rfl (by (try simp only [nfA, T_md, Nat.reduceAdd]) <;> apply rfl) ?_) | (refine is_mv ?_; first | refine mv_val rfl ?_) | (refine is_bo ?_; first | refine rl_binT rfl ?_ | refine rl_binF rfl ?_ | (refine rl_binB rfl ?_; intro _ _) | (refine rl_half rfl (by (try simp only [maxLen_eq, List.length_map, decide_eq_true_eq, decide_eq_false_iff_not] at *); omega) ?_) | (refine rl_binW rfl (by (try simp only [maxLen_eq, List.length_map, decide_eq_true_eq, decide_eq_false_iff_not] at *); omega) ?_) | refine bo_val rfl ?_) | (refine is_st ?_; first | refine st_store rfl (by first | refine lookM_hd | exact lookM_sl rfl lookM_hd | (repeat (first | refine lookM_hd | refine lookM_sl rfl ?_))) rfl (by (try simp only [nfA, T_md, Nat.reduceAdd]) <;> apply rfl) ?_) | (refine is_as ?_; first | refine as_val rfl ?_ | refine as_new rfl rfl ?_) | (refine is_pk ?_; first | refine pk_twoT rfl rfl ?_ | refine pk_twoF rfl rfl ?_ | (refine pk_case rfl ?_ ?_ <;> (intro h; subst h))) | (refine is_bd ?_; first | refine bd_valn rfl (by (try simp only [nfA, T_md, Nat.reduceAdd]) <;> apply rfl) ?_) | (refine is_ia ?_; first | (refine ia_elt rfl ?_ (fun _ _ => ?_))) | (refine is_al ?_; first | refine al_alloc rfl (by (try simp only [nfA, T_md, Nat.reduceAdd]) <;> apply rfl) ?_) | (refine is_ex ?_; first | (refine rl_extB rfl ?_; intro _ _) | refine ex_valn rfl (by (try simp only [nfA, T_md, Nat.reduceAdd]) <;> apply rfl) ?_) | (refine is_uo ?_; first | refine uo_val rfl ?_) | (refine is_bs ?_; first | refine bs_new rfl (by (try simp only [nfA, T_md, Nat.reduceAdd]) <;> apply rfl) ?_) | (refine is_bi ?_; first | refine bi_val rfl ?_ | refine bi_own rfl (by first | refine lookB_hd | exact lookB_tt lookB_hd | (repeat (first | refine lookB_hd | refine lookB_sl rfl ?_))) ?_ ?_ | refine bi_needN rfl ?_ ?_ | (refine bi_gated rfl (by (try simp only [nfA, T_md, Nat.reduceAdd]) <;> apply rfl) ?_; intro _)) | (refine is_cf 126 ?_; first | (refine cfB (f126_calls _ _ _ _) rfl ⟨.inl rfl, .inl rfl, .inl rfl, .inl rfl, trivial⟩ ?_; intro _ _) | (refine cfB (f126_calls _ _ _ _) rfl ⟨(by first | exact .inl rfl | exact .inr (.inl rfl) | exact .inr (.inr ⟨_, _, rfl, rfl⟩)), (by first | exact .inl rfl | exact .inr (.inl rfl) | exact .inr (.inr ⟨_, _, rfl, rfl⟩)), (by first | exact .inl rfl | exact .inr (.inl rfl) | exact .inr (.inr ⟨_, _, rfl, rfl⟩)), (by first | exact .inl rfl | exact .inr (.inl rfl) | exact .inr (.inr ⟨_, _, rfl, rfl⟩)), trivial⟩ ?_; intro _ _))) | refine rl_nil ?_ | (refine is_aw ?_; first | refine aw_seq ?_ | refine aw_scope ?_ | refine aw_reg rfl ?_ | refine aw_draw rfl ?_ | refine aw_condT rfl ?_ | refine aw_condF rfl ?_ | (refine aw_condN rfl ?_ ?_ <;> (intro h; subst h)) | (refine aw_cond rfl ?_ ?_ <;> (intro h; subst h)) | refine aw_skip ?_ | refine aw_ret ?_ | refine aw_exit ?_ | refine aw_block ?_ | refine aw_label ?_) | refine tq_n ?_ | refine ng_n ?_ | refine ng_r ?_ | refine ng_x ?_ | refine ⟨(rfl : regOk _ _ = true), ?_⟩ | refine tq_r ?_ | refine tq_x ?_ | refine bq_n ?_ | refine bq_x ?_ | refine bq_r ?_ | refine bq_o rfl ?_ | refine fq_r rfl ?_ | refine fq_n rfl ?_)
  all_goals try (simp only [maxLen_eq, List.length_map, decide_eq_true_eq, decide_eq_false_iff_not, Int.toNat_natCast, Bool.not_eq_true', Bool.not_eq_false', Bool.not_eq_true, Bool.not_eq_false] at *; omega)
  · rename_i hl x hx b1 hb1 _ b2 hb2 hne
    simp only [maxLen_eq, List.length_map, decide_eq_true_eq, decide_eq_false_iff_not, Int.toNat_natCast, Bool.not_eq_true', Bool.not_eq_false', Bool.not_eq_true, Bool.not_eq_false] at *
    have hx' : l.getD n default = x := by simp [List.getD, hx]
    have : foldL l = .error 10 := foldL_bad hall hpos fun v hq => by
      rcases Nat.lt_or_ge n (l.length - 1) with q | q
      · have : ¬ ((n : Int) = (l.length : Int) - 1) := by omega
        rw [← hb2] at hne
        simp only [this, decide_false] at hne
        rw [← hb1] at hne
        exact goUp_kind1 (by rw [hx']; simpa using hne) q
      · exfalso
        have e1 : n = l.length - 1 := by omega
        have : (n : Int) = (l.length : Int) - 1 := by omega
        rw [← e1, hx'] at hq
        rw [← hb2, ← hb1] at hne
        simp [hq, this] at hne
    rw [this]; rfl
  · rename_i hl y hy b1 hb1 _ b2 hb2 he x hx h5 h0
    simp only [maxLen_eq, List.length_map, decide_eq_true_eq, decide_eq_false_iff_not, Int.toNat_natCast, Bool.not_eq_true', Bool.not_eq_false', Bool.not_eq_true, Bool.not_eq_false] at *
    have hx' : l.getD n default = x := by simp [List.getD, hx]
    rw [hx] at hy; cases hy
    have : foldL l = .error 10 := foldL_bad hall hpos fun v hq => by
      rcases Nat.lt_or_ge n (l.length - 1) with q | q
      · exact goUp_kind5 (by rw [hx']; exact h5) (by omega) q
      · exfalso
        have e1 : n = l.length - 1 := by omega
        rw [← e1, hx'] at hq
        omega
    rw [this]; rfl
  · rename_i hl y hy b1 hb1 _ b2 hb2 he x hx h5 h0
    simp only [maxLen_eq, List.length_map, decide_eq_true_eq, decide_eq_false_iff_not, Int.toNat_natCast, Bool.not_eq_true', Bool.not_eq_false', Bool.not_eq_true, Bool.not_eq_false] at *
    have hx' : l.getD n default = x := by simp [List.getD, hx]
    rw [hx] at hy; cases hy
    refine ⟨n + 1, _, by omega, le_of ⟨rfl, rfl, rfl, trivial⟩ ⟨rfl, trivial⟩ trivial (Nat.le_refl _), by omega, fun j hj => ?_⟩
    rcases Nat.lt_or_ge j n with q | q
    · exact hk j q
    · obtain rfl : j = n := by omega
      rw [← hb1, ← hb2, decide_eq_decide] at he
      rw [hx', he]
      exact ⟨by omega, fun _ => by omega⟩
  · rename_i hl y hy b1 hb1 _ b2 hb2 he x hx h5
    simp only [maxLen_eq, List.length_map, decide_eq_true_eq, decide_eq_false_iff_not, Int.toNat_natCast, Bool.not_eq_true', Bool.not_eq_false', Bool.not_eq_true, Bool.not_eq_false] at *
    have hx' : l.getD n default = x := by simp [List.getD, hx]
    rw [hx] at hy; cases hy
    refine ⟨n + 1, _, by omega, le_of ⟨rfl, rfl, rfl, trivial⟩ ⟨rfl, trivial⟩ trivial (Nat.le_refl _), by omega, fun j hj => ?_⟩
    rcases Nat.lt_or_ge j n with q | q
    · exact hk j q
    · obtain rfl : j = n := by omega
      rw [← hb1, ← hb2, decide_eq_decide] at he
      rw [hx', he]
      exact ⟨by omega, fun q => absurd q h5⟩
  rename_i hl _ b hb ok hok _
  simp only [maxLen_eq, List.length_map, decide_eq_true_eq, decide_eq_false_iff_not, Int.toNat_natCast, Bool.not_eq_true', Bool.not_eq_false', Bool.not_eq_true, Bool.not_eq_false] at *
  have e1 : ((l.length : Int) - 1).toNat = l.length - 1 := by omega
  rw [e1] at hb
  have hkb := (hk (l.length - 1) (by omega)).1
  rw [show l.getD (l.length - 1) default = b by simp [List.getD, hb]] at hkb
  refine aw_loopX (fun (x : (Nat × LView × Bool) × Option Key) e' => ⟨[(9, .dat (I ((x.1.1 : Int) - 1))), (7, .ptr (7, 0, e + 1 + 1 + 1) 0), (8, .dat (.bool x.1.2.2)), (0, .dat (.lst 15 (ecs l))), (2, .ptr (2, 0, 1) 0)], [((7, 0, e + 1 + 1 + 1), cellsV x.1.2.1 x.2), ((2, 0, 1), zeroW)], [], e'⟩) (fun x => InvL l x.1) (fun x => x.1.1) ((l.length - 1, baseV b, ok), none) _
    (le_of ⟨?_, rfl, rfl, rfl, rfl, trivial⟩ ⟨lookM_hd, lookM_sl rfl (lookM_sl rfl (lookM_sl rfl (lookM_sl rfl lookM_hd))), trivial⟩ trivial (Nat.le_refl _)) (invL_base hall hb (hkb.2 rfl) hok hs) ?_
  · have e3 : ((l.length - 1 : Nat) : Int) - 1 = (l.length : Int) - 2 := by omega
    dsimp only
    rw [e3]; rfl
  rintro ⟨⟨m, v, ok⟩, c⟩ e2 hI
  dsimp only at hI ⊢
  cases ok with
  | false =>
    repeat' (first | (refine is_cons ?_; first | (refine is_g ?_; first | refine rl_on rfl rfl ?_ | refine rl_off rfl rfl ?_ | refine rl_offU rfl ?_ | (refine rl_case rfl ?_ ?_ <;> (intro h; first | subst h | (simp only [Bool.not_eq_true', Bool.not_eq_false'] at h; subst h)))) | (refine is_fa ?_; first | refine fa_valn rfl (by (try simp only [nfA, T_md, Nat.reduceAdd]) <;> apply rfl) ?_) | (refine is_ld ?_; first | refine ld_load rfl (by first | refine lookM_hd | exact lookM_sl rfl lookM_hd | (repeat (first | refine lookM_hd | refine lookM_sl rfl ?_))) rfl (by (try simp only [nfA, T_md, Nat.reduceAdd]) <;> apply rfl) ?_ | refine ld_valn rfl (by (try simp only [nfA, T_md, Nat.reduceAdd]) <;> apply rfl) ?_) | (refine is_mv ?_; first | refine mv_val rfl ?_) | (refine is_bo ?_; first | refine rl_binT rfl ?_ | refine rl_binF rfl ?_ | (refine rl_binB rfl ?_; intro _ _) | (refine rl_half rfl (by (try simp only [maxLen_eq, List.length_map, decide_eq_true_eq, decide_eq_false_iff_not] at *); omega) ?_) | (refine rl_binW rfl (by (try simp only [maxLen_eq, List.length_map, decide_eq_true_eq, decide_eq_false_iff_not] at *); omega) ?_) | refine bo_val rfl ?_) | (refine is_st ?_; first | refine st_store rfl (by first | refine lookM_hd | exact lookM_sl rfl lookM_hd | (repeat (first | refine lookM_hd | refine lookM_sl rfl ?_))) rfl (by (try simp only [nfA, T_md, Nat.reduceAdd]) <;> apply rfl) ?_) | (refine is_as ?_; first | refine as_val rfl ?_ | refine as_new rfl rfl ?_) | (refine is_pk ?_; first | refine pk_twoT rfl rfl ?_ | refine pk_twoF rfl rfl ?_ | (refine pk_case rfl ?_ ?_ <;> (intro h; subst h))) | (refine is_bd ?_; first | refine bd_valn rfl (by (try simp only [nfA, T_md, Nat.reduceAdd]) <;> apply rfl) ?_) | (refine is_ia ?_; first | (refine ia_elt rfl ?_ (fun _ _ => ?_))) | (refine is_al ?_; first | refine al_alloc rfl (by (try simp only [nfA, T_md, Nat.reduceAdd]) <;> apply rfl) ?_) | (refine is_ex ?_; first | (refine rl_extB rfl ?_; intro _ _) | refine ex_valn rfl (by (try simp only [nfA, T_md, Nat.reduceAdd]) <;> apply rfl) ?_) | (refine is_uo ?_; first | refine uo_val rfl ?_) | (refine is_bs ?_; first | refine bs_new rfl (by (try simp only [nfA, T_md, Nat.reduceAdd]) <;> apply rfl) ?_) | (refine is_bi ?_; first | refine bi_val rfl ?_ | refine bi_own rfl (by first | refine lookB_hd | exact lookB_tt lookB_hd | (repeat (first | refine lookB_hd | refine lookB_sl rfl ?_))) ?_ ?_ | refine bi_needN rfl ?_ ?_ | (refine bi_gated rfl (by (try simp only [nfA, T_md, Nat.reduceAdd]) <;> apply rfl) ?_; intro _))) | refine rl_nil ?_ | (refine is_aw ?_; first | refine aw_seq ?_ | refine aw_scope ?_ | refine aw_reg rfl ?_ | refine aw_draw rfl ?_ | refine aw_condT rfl ?_ | refine aw_condF rfl ?_ | (refine aw_condN rfl ?_ ?_ <;> (intro h; subst h)) | (refine aw_cond rfl ?_ ?_ <;> (intro h; subst h)) | refine aw_skip ?_ | refine aw_ret ?_ | refine aw_exit ?_ | refine aw_block ?_ | refine aw_label ?_) | refine tq_n ?_ | refine ng_n ?_ | refine ng_r ?_ | refine ng_x ?_ | refine ⟨(rfl : regOk _ _ = true), ?_⟩ | refine tq_r ?_ | refine tq_x ?_ | refine bq_n ?_ | refine bq_x ?_ | refine bq_r ?_ | refine bq_o rfl ?_ | refine fq_r rfl ?_ | refine fq_n rfl ?_)
    all_goals (rw [hI.2.2 rfl]; rfl)
  | true =>
    cases m with
    | zero =>
      have hfin : foldL l = .ok v := (hI.2.1 rfl).2.2.2
      cases c
      all_goals dsimp only [cellsV]
      all_goals
        repeat' (first | (refine is_cons ?_; first | (refine is_g ?_; first | refine rl_on rfl rfl ?_ | refine rl_off rfl rfl ?_ | refine rl_offU rfl ?_ | (refine rl_case rfl ?_ ?_ <;> (intro h; first | subst h | (simp only [Bool.not_eq_true', Bool.not_eq_false'] at h; subst h)))) | (refine is_fa ?_; first | refine fa_valn rfl (by (try simp only [nfA, T_md, Nat.reduceAdd]) <;> apply rfl) ?_) | (refine is_ld ?_; first | refine ld_load rfl (by first | refine lookM_hd | exact lookM_sl rfl lookM_hd | (repeat (first | refine lookM_hd | refine lookM_sl rfl ?_))) rfl (by (try simp only [nfA, T_md, Nat.reduceAdd]) <;> apply rfl) ?_ | refine ld_valn rfl (by (try simp only [nfA, T_md, Nat.reduceAdd]) <;> apply rfl) ?_) | (refine is_mv ?_; first | refine mv_val rfl ?_) | (refine is_bo ?_; first | refine rl_binT rfl ?_ | refine rl_binF rfl ?_ | (refine rl_binB rfl ?_; intro _ _) | (refine rl_half rfl (by (try simp only [maxLen_eq, List.length_map, decide_eq_true_eq, decide_eq_false_iff_not] at *); omega) ?_) | (refine rl_binW rfl (by (try simp only [maxLen_eq, List.length_map, decide_eq_true_eq, decide_eq_false_iff_not] at *); omega) ?_) | refine bo_val rfl ?_) | (refine is_st ?_; first | refine st_store rfl (by first | refine lookM_hd | exact lookM_sl rfl lookM_hd | (repeat (first | refine lookM_hd | refine lookM_sl rfl ?_))) rfl (by (try simp only [nfA, T_md, Nat.reduceAdd]) <;> apply rfl) ?_) | (refine is_as ?_; first | refine as_val rfl ?_ | refine as_new rfl rfl ?_) | (refine is_pk ?_; first | refine pk_twoT rfl rfl ?_ | refine pk_twoF rfl rfl ?_ | (refine pk_case rfl ?_ ?_ <;> (intro h; subst h))) | (refine is_bd ?_; first | refine bd_valn rfl (by (try simp only [nfA, T_md, Nat.reduceAdd]) <;> apply rfl) ?_) | (refine is_ia ?_; first | (refine ia_elt rfl ?_ (fun _ _ => ?_))) | (refine is_al ?_; first | refine al_alloc rfl (by (try simp only [nfA, T_md, Nat.reduceAdd]) <;> apply rfl) ?_) | (refine is_ex ?_; first | (refine rl_extB rfl ?_; intro _ _) | refine ex_valn rfl (by (try simp only [nfA, T_md, Nat.reduceAdd]) <;> apply rfl) ?_) | (refine is_uo ?_; first | refine uo_val rfl ?_) | (refine is_bs ?_; first | refine bs_new rfl (by (try simp only [nfA, T_md, Nat.reduceAdd]) <;> apply rfl) ?_) | (refine is_bi ?_; first | refine bi_val rfl ?_ | refine bi_own rfl (by first | refine lookB_hd | exact lookB_tt lookB_hd | (repeat (first | refine lookB_hd | refine lookB_sl rfl ?_))) ?_ ?_ | refine bi_needN rfl ?_ ?_ | (refine bi_gated rfl (by (try simp only [nfA, T_md, Nat.reduceAdd]) <;> apply rfl) ?_; intro _))) | refine rl_nil ?_ | (refine is_aw ?_; first | refine aw_seq ?_ | refine aw_scope ?_ | refine aw_reg rfl ?_ | refine aw_draw rfl ?_ | refine aw_condT rfl ?_ | refine aw_condF rfl ?_ | (refine aw_condN rfl ?_ ?_ <;> (intro h; subst h)) | (refine aw_cond rfl ?_ ?_ <;> (intro h; subst h)) | refine aw_skip ?_ | refine aw_ret ?_ | refine aw_exit ?_ | refine aw_block ?_ | refine aw_label ?_) | refine tq_n ?_ | refine ng_n ?_ | refine ng_r ?_ | refine ng_x ?_ | refine ⟨(rfl : regOk _ _ = true), ?_⟩ | refine tq_r ?_ | refine tq_x ?_ | refine bq_n ?_ | refine bq_x ?_ | refine bq_r ?_ | refine bq_o rfl ?_ | refine fq_r rfl ?_ | refine fq_n rfl ?_)
      all_goals first
        | (exfalso; simp only [maxLen_eq, List.length_map, decide_eq_true_eq, decide_eq_false_iff_not, Int.toNat_natCast, Bool.not_eq_true', Bool.not_eq_false', Bool.not_eq_true, Bool.not_eq_false] at *; omega)
        | (rw [hfin]; rfl)
    | succ k =>
      have hle : k + 1 ≤ l.length - 1 := hI.1
      have hgo : v.gone = false := by
        cases q : v.gone with
        | false => rfl
        | true => have := (hI.2.1 rfl).2.1 q; omega
      have hro : v.rows.length + szL l (k + 1) ≤ 900000 := (hI.2.1 rfl).2.2.1
      have hX : l[k]? = some (l.getD k default) := by simp [List.getD, List.getElem?_eq_getElem (show k < l.length by omega)]
      have hz := szL_succ hX
      have hk1 := hk k (by omega)
      have hkin := hall k (by omega)
      generalize l.getD k default = X at hX hk1 hkin hz
      have hX5 := hk1.2
      have hXk : X.kind = 2 ∨ X.kind = 3 ∨ X.kind = 4 ∨ X.kind = 5 ∨ X.kind = 6 := by
        have h1 : X.kind ≠ 1 := fun q => by have := hk1.1.1 q; omega
        simp only [kindL, Bool.and_eq_true, decide_eq_true_eq] at hkin
        omega
      have hS := fun h => refStep (v := v) hXk h hX hgo hI
      have hkn : ∀ a, l[(((k + 1 : Nat) : Int) - 1).toNat]? = some a → a = X := by
        intro a ha
        have : (((k + 1 : Nat) : Int) - 1).toNat = k := by omega
        rw [this, hX] at ha
        exact (Option.some.inj ha).symm
      have hbnd : 0 ≤ (((k + 1 : Nat) : Int) - 1) ∧ (((k + 1 : Nat) : Int) - 1).toNat < l.length := by omega
      replace hS := hS hX5
      clear hI hX5 hk1 hkin hk hkb hall hok hb
      obtain ⟨vlo, vhi, vun, vri, vro, vgo⟩ := v
      obtain ⟨kd, lo, hi, un, ri, ro, en, ke, va, pa, ho, ne⟩ := X
      dsimp only at hgo hro hz hXk
      subst hgo
      rcases hXk with q | q | q | q | q
      all_goals subst q
      all_goals cases c
      all_goals dsimp only [cellsV]
      all_goals
        repeat' (first | (refine is_cons ?_; first | (refine is_g ?_; first | refine rl_on rfl rfl ?_ | refine rl_off rfl rfl ?_ | refine rl_offU rfl ?_ | (refine rl_case rfl ?_ ?_ <;> (intro h; first | subst h | (simp only [Bool.not_eq_true', Bool.not_eq_false'] at h; subst h)))) | (refine is_ia ?_; refine ia_elt rfl hbnd (fun a ha => ?_); obtain rfl := hkn a ha) | (refine is_fa ?_; first | refine fa_valn rfl (by (try simp only [nfA, T_md, Nat.reduceAdd]) <;> apply rfl) ?_) | (refine is_ld ?_; first | refine ld_load rfl (by first | refine lookM_hd | exact lookM_sl rfl lookM_hd | (repeat (first | refine lookM_hd | refine lookM_sl rfl ?_))) rfl (by (try simp only [nfA, T_md, Nat.reduceAdd]) <;> apply rfl) ?_ | refine ld_valn rfl (by (try simp only [nfA, T_md, Nat.reduceAdd]) <;> apply rfl) ?_) | (refine is_mv ?_; first | refine mv_val rfl ?_) | (refine is_bo ?_; first | refine rl_binT rfl ?_ | refine rl_binF rfl ?_ | (refine rl_binB rfl ?_; intro _ _) | (refine rl_half rfl (by (try simp only [maxLen_eq, List.length_map, decide_eq_true_eq, decide_eq_false_iff_not] at *); omega) ?_) | (refine rl_binW rfl (by (try simp only [maxLen_eq, List.length_map, decide_eq_true_eq, decide_eq_false_iff_not] at *); omega) ?_) | refine bo_val rfl ?_) | (refine is_st ?_; first | refine st_store rfl (by first | refine lookM_hd | exact lookM_sl rfl lookM_hd | (repeat (first | refine lookM_hd | refine lookM_sl rfl ?_))) rfl (by (try simp only [nfA, T_md, Nat.reduceAdd]) <;> apply rfl) ?_) | (refine is_as ?_; first | refine as_val rfl ?_ | refine as_new rfl rfl ?_) | (refine is_pk ?_; first | refine pk_twoT rfl rfl ?_ | refine pk_twoF rfl rfl ?_ | (refine pk_case rfl ?_ ?_ <;> (intro h; subst h))) | (refine is_bd ?_; first | refine bd_valn rfl (by (try simp only [nfA, T_md, Nat.reduceAdd]) <;> apply rfl) ?_) | (refine is_ia ?_; first | (refine ia_elt rfl ?_ (fun _ _ => ?_))) | (refine is_al ?_; first | refine al_alloc rfl (by (try simp only [nfA, T_md, Nat.reduceAdd]) <;> apply rfl) ?_) | (refine is_ex ?_; first | (refine rl_extB rfl ?_; intro _ _) | refine ex_valn rfl (by (try simp only [nfA, T_md, Nat.reduceAdd]) <;> apply rfl) ?_) | (refine is_uo ?_; first | refine uo_val rfl ?_) | (refine is_bs ?_; first | refine bs_new rfl (by (try simp only [nfA, T_md, Nat.reduceAdd]) <;> apply rfl) ?_) | (refine is_bi ?_; first | refine bi_val rfl ?_ | refine bi_own rfl (by first | refine lookB_hd | exact lookB_tt lookB_hd | (repeat (first | refine lookB_hd | refine lookB_sl rfl ?_))) ?_ ?_ | refine bi_needN rfl ?_ ?_ | (refine bi_gated rfl (by (try simp only [nfA, T_md, Nat.reduceAdd]) <;> apply rfl) ?_; intro _)) | (refine is_cf 71 ?_; first | (refine cfB (f71_calls ⟨ke, va⟩) rfl ⟨.inl rfl, trivial⟩ ?_; intro _ _) | (refine cfB (f71_calls ⟨ke, va⟩) rfl ⟨(by first | exact .inl rfl | exact .inr (.inl rfl) | exact .inr (.inr ⟨_, _, rfl, rfl⟩)), trivial⟩ ?_; intro _ _)) | (refine is_cf 33 ?_; first | (refine cfB (f33_calls ⟨vlo, vhi, vun, vri, vro, false⟩ _) rfl ⟨.inl rfl, .inl rfl, trivial⟩ ?_; intro _ _) | (refine cfB (f33_calls ⟨vlo, vhi, vun, vri, vro, false⟩ _) rfl ⟨(by first | exact .inl rfl | exact .inr (.inl rfl) | exact .inr (.inr ⟨_, _, rfl, rfl⟩)), (by first | exact .inl rfl | exact .inr (.inl rfl) | exact .inr (.inr ⟨_, _, rfl, rfl⟩)), trivial⟩ ?_; intro _ _)) | (refine is_cf 61 ?_; first | refine cf (f61_calls vro ⟨ke, va⟩ (by omega)) rfl ⟨.inl rfl, .inl rfl, trivial⟩ ?_ | refine cf (f61_calls vro ⟨ke, va⟩ (by omega)) rfl ⟨(by first | exact .inl rfl | exact .inr (.inl rfl) | exact .inr (.inr ⟨_, _, rfl, rfl⟩)), (by first | exact .inl rfl | exact .inr (.inl rfl) | exact .inr (.inr ⟨_, _, rfl, rfl⟩)), trivial⟩ ?_) | (refine is_cf 60 ?_; first | refine cf (f60_calls vro ke (by omega)) rfl ⟨.inl rfl, .inl rfl, trivial⟩ ?_ | refine cf (f60_calls vro ke (by omega)) rfl ⟨(by first | exact .inl rfl | exact .inr (.inl rfl) | exact .inr (.inr ⟨_, _, rfl, rfl⟩)), (by first | exact .inl rfl | exact .inr (.inl rfl) | exact .inr (.inr ⟨_, _, rfl, rfl⟩)), trivial⟩ ?_) | (refine is_cf 127 ?_; first | refine cf (f127_calls vro ke (by omega)) rfl ⟨.inl rfl, .inl rfl, trivial⟩ ?_ | refine cf (f127_calls vro ke (by omega)) rfl ⟨(by first | exact .inl rfl | exact .inr (.inl rfl) | exact .inr (.inr ⟨_, _, rfl, rfl⟩)), (by first | exact .inl rfl | exact .inr (.inl rfl) | exact .inr (.inr ⟨_, _, rfl, rfl⟩)), trivial⟩ ?_) | (refine is_cf 72 ?_; first | (refine cfB (f72_calls _ _) rfl ⟨.inl rfl, .inl rfl, trivial⟩ ?_; intro _ _) | (refine cfB (f72_calls _ _) rfl ⟨(by first | exact .inl rfl | exact .inr (.inl rfl) | exact .inr (.inr ⟨_, _, rfl, rfl⟩)), (by first | exact .inl rfl | exact .inr (.inl rfl) | exact .inr (.inr ⟨_, _, rfl, rfl⟩)), trivial⟩ ?_; intro _ _)) | (refine is_cf 126 ?_; first | (refine cfB (f126_calls _ _ _ _) rfl ⟨.inl rfl, .inl rfl, .inl rfl, .inl rfl, trivial⟩ ?_; intro _ _) | (refine cfB (f126_calls _ _ _ _) rfl ⟨(by first | exact .inl rfl | exact .inr (.inl rfl) | exact .inr (.inr ⟨_, _, rfl, rfl⟩)), (by first | exact .inl rfl | exact .inr (.inl rfl) | exact .inr (.inr ⟨_, _, rfl, rfl⟩)), (by first | exact .inl rfl | exact .inr (.inl rfl) | exact .inr (.inr ⟨_, _, rfl, rfl⟩)), (by first | exact .inl rfl | exact .inr (.inl rfl) | exact .inr (.inr ⟨_, _, rfl, rfl⟩)), trivial⟩ ?_; intro _ _))) | refine rl_nil ?_ | (refine is_aw ?_; first | refine aw_seq ?_ | refine aw_scope ?_ | refine aw_reg rfl ?_ | refine aw_draw rfl ?_ | refine aw_condT rfl ?_ | refine aw_condF rfl ?_ | (refine aw_condN rfl ?_ ?_ <;> (intro h; subst h)) | (refine aw_cond rfl ?_ ?_ <;> (intro h; subst h)) | refine aw_skip ?_ | refine aw_ret ?_ | refine aw_exit ?_ | refine aw_block ?_ | refine aw_label ?_) | refine tq_n ?_ | refine ng_n ?_ | refine ng_r ?_ | refine ng_x ?_ | refine ⟨(rfl : regOk _ _ = true), ?_⟩ | refine tq_r ?_ | refine tq_x ?_ | refine bq_n ?_ | refine bq_x ?_ | refine bq_r ?_ | refine bq_o rfl ?_ | refine fq_r rfl ?_ | refine fq_n rfl ?_)
      all_goals first
        | (refine ex_mk (α := (Nat × LView × Bool) × Option Key) ((k, (refV _ _).1, (refV _ _).2), none) _ ⟨by dsimp only; omega, le_of ⟨lk_int rfl (by dsimp only; omega), rfl, lk_bool rfl (by first | rfl | (simp [refV, *]; done)), rfl, rfl, trivial⟩ ⟨lk_mem lookM_hd rfl, lk_mem (by repeat (first | refine lookM_hd | refine lookM_sl rfl ?_)) rfl, trivial⟩ trivial (Nat.le_refl _), hS⟩)
        | (refine ex_mk (α := (Nat × LView × Bool) × Option Key) ((k, (refV _ _).1, (refV _ _).2), some _) _ ⟨by dsimp only; omega, le_of ⟨lk_int rfl (by dsimp only; omega), rfl, lk_bool rfl (by first | rfl | (simp [refV, *]; done)), rfl, rfl, trivial⟩ ⟨lk_mem lookM_hd (cells_app _ _ _ _ _ _ _ _), lk_mem (by repeat (first | refine lookM_hd | refine lookM_sl rfl ?_)) rfl, trivial⟩ trivial (Nat.le_refl _), hS⟩)
        | (refine ex_mk (α := (Nat × LView × Bool) × Option Key) ((k, (refV _ _).1, (refV _ _).2), some _) _ ⟨by dsimp only; omega, le_of ⟨lk_int rfl (by dsimp only; omega), rfl, lk_bool rfl (by first | rfl | (simp [refV, *]; done)), rfl, rfl, trivial⟩ ⟨lk_mem lookM_hd (rfl), lk_mem (by repeat (first | refine lookM_hd | refine lookM_sl rfl ?_)) rfl, trivial⟩ trivial (Nat.le_refl _), hS⟩)
        | (exfalso; simp only [maxLen_eq, List.length_map, decide_eq_true_eq, decide_eq_false_iff_not, Int.toNat_natCast, Bool.not_eq_true', Bool.not_eq_false', Bool.not_eq_true, Bool.not_eq_false] at *; omega)
        | (simp only [maxLen_eq, List.length_append, List.length_map, List.length_nil]; omega)
        | skip
end Go.Proofs.YtbeafnkcimfeeaaGreatDoor.AM.TT
-- tt
namespace Go.Proofs.YtbeafnkcimfeeaaGreatDoor.AM.TT
set_option linter.unusedVariables false
set_option linter.unusedSimpArgs false
open Go Go.Proofs.YtbeafnkcimfeeaaGreatDoor.AM Go.Proofs
set_option linter.unusedSimpArgs false
set_option linter.unusedVariables false
set_option maxHeartbeats 1000000
attribute [local irreducible] RunL AWp StepK OpK thenQ blockQ noGotoQ fnQ fnEQ
theorem enter84 : EnterOk Tryz.prog 84 := EnterOk_of (fn := Tryz.f84) (by kernel_rfl) (by kernel_rfl) (by kernel_rfl)
theorem f84_calls (v : IView) (k : Str) : CallsD Tryz.prog 84 [.agg (ei v), .str k] (.bool (hasI v k)) := by
  refine CallsD_bd enter84 fun hbd => CallsD_of good mixed (fn := Tryz.f84) (by kernel_rfl) rfl enter84 (Nat.le_of_ble_eq_true rfl) ?_
  show AWp _ _ _ _ _ ⟨[(0, _), (1, _)], [], [], 0⟩
  repeat' (first | (refine is_cons ?_; first | (refine is_ld ?_; first | refine ld_load rfl (by first | refine lookM_hd | exact lookM_sl rfl lookM_hd | (repeat (first | refine lookM_hd | refine lookM_sl rfl ?_))) rfl (by (try simp only [nfA, T_md, Nat.reduceAdd]) <;> apply rfl) ?_ | refine ld_valn rfl (by (try simp only [nfA, T_md, Nat.reduceAdd]) <;> apply rfl) ?_) | (refine is_fa ?_; first | refine fa_valn rfl (by (try simp only [nfA, T_md, Nat.reduceAdd]) <;> apply rfl) ?_) | (refine is_as ?_; first | refine as_val rfl ?_ | refine as_new rfl rfl ?_) | (refine is_mv ?_; first | refine mv_val rfl ?_) | (refine is_bx ?_; first | refine bx_alloc rfl (by (try simp only [nfA, T_md, Nat.reduceAdd]) <;> apply rfl) ?_) | (refine is_cf 83 ?_; first | refine cf (f83_calls _ _ _ _) rfl ⟨.inl rfl, .inl rfl, .inl rfl, .inl rfl, trivial⟩ ?_ | refine cf (f83_calls _ _ _ _) rfl ⟨(by first | exact .inl rfl | exact .inr (.inl rfl) | exact .inr (.inr ⟨_, _, rfl, rfl⟩)), (by first | exact .inl rfl | exact .inr (.inl rfl) | exact .inr (.inr ⟨_, _, rfl, rfl⟩)), (by first | exact .inl rfl | exact .inr (.inl rfl) | exact .inr (.inr ⟨_, _, rfl, rfl⟩)), (by first | exact .inl rfl | exact .inr (.inl rfl) | exact .inr (.inr ⟨_, _, rfl, rfl⟩)), trivial⟩ ?_)) | refine rl_nil ?_ | (refine is_aw ?_; first | refine aw_seq ?_ | refine aw_scope ?_ | refine aw_reg rfl ?_ | refine aw_draw rfl ?_ | refine aw_condT rfl ?_ | refine aw_condF rfl ?_ | (refine aw_condN rfl ?_ ?_ <;> (intro h; subst h)) | (refine aw_cond rfl ?_ ?_ <;> (intro h; subst h)) | refine aw_skip ?_ | refine aw_ret ?_ | refine aw_exit ?_ | refine aw_block ?_ | refine aw_label ?_) | refine tq_n ?_ | refine ng_n ?_ | refine ng_r ?_ | refine ng_x ?_ | refine ⟨(rfl : regOk _ _ = true), ?_⟩ | refine tq_r ?_ | refine tq_x ?_ | refine bq_n ?_ | refine bq_x ?_ | refine bq_r ?_ | refine bq_o rfl ?_ | refine fq_r rfl ?_ | refine fq_n rfl ?_)
  all_goals rfl
theorem enter129 : EnterOk Tryz.prog 129 := EnterOk_of (fn := Tryz.f129) (by kernel_rfl) (by kernel_rfl) (by kernel_rfl)
theorem f129_calls (v : IView) (k : Str) : CallsD Tryz.prog 129 [.agg (ei v), .str k] (I (atE v.ents k)) := by
  refine CallsD_bd enter129 fun hbd => CallsD_of good mixed (fn := Tryz.f129) (by kernel_rfl) rfl enter129 (Nat.le_of_ble_eq_true rfl) ?_
  show AWp _ _ _ _ _ ⟨[(0, _), (1, _)], [], [], 0⟩
  repeat' (first | (refine is_cons ?_; first | (refine is_mv ?_; first | refine mv_val rfl ?_) | (refine is_as ?_; first | refine as_val rfl ?_ | refine as_new rfl rfl ?_) | (refine is_bo ?_; first | refine rl_binT rfl ?_ | refine rl_binF rfl ?_ | (refine rl_binB rfl ?_; intro _ _) | (refine rl_half rfl (by (try simp only [maxLen_eq, List.length_map, decide_eq_true_eq, decide_eq_false_iff_not] at *); omega) ?_) | (refine rl_binW rfl (by (try simp only [maxLen_eq, List.length_map, decide_eq_true_eq, decide_eq_false_iff_not] at *); omega) ?_) | refine bo_val rfl ?_) | (refine is_ld ?_; first | refine ld_load rfl (by first | refine lookM_hd | exact lookM_sl rfl lookM_hd | (repeat (first | refine lookM_hd | refine lookM_sl rfl ?_))) rfl (by (try simp only [nfA, T_md, Nat.reduceAdd]) <;> apply rfl) ?_ | refine ld_valn rfl (by (try simp only [nfA, T_md, Nat.reduceAdd]) <;> apply rfl) ?_) | (refine is_fa ?_; first | refine fa_valn rfl (by (try simp only [nfA, T_md, Nat.reduceAdd]) <;> apply rfl) ?_) | (refine is_bx ?_; first | refine bx_alloc rfl (by (try simp only [nfA, T_md, Nat.reduceAdd]) <;> apply rfl) ?_) | (refine is_ia ?_; first | (refine ia_elt rfl ?_ (fun _ _ => ?_))) | (refine is_bi ?_; first | refine bi_val rfl ?_ | refine bi_own rfl (by first | refine lookB_hd | exact lookB_tt lookB_hd | (repeat (first | refine lookB_hd | refine lookB_sl rfl ?_))) ?_ ?_ | refine bi_needN rfl ?_ ?_ | (refine bi_gated rfl (by (try simp only [nfA, T_md, Nat.reduceAdd]) <;> apply rfl) ?_; intro _))) | refine rl_nil ?_ | (refine is_aw ?_; first | refine aw_seq ?_ | refine aw_scope ?_ | refine aw_reg rfl ?_ | refine aw_draw rfl ?_ | refine aw_condT rfl ?_ | refine aw_condF rfl ?_ | (refine aw_condN rfl ?_ ?_ <;> (intro h; subst h)) | (refine aw_cond rfl ?_ ?_ <;> (intro h; subst h)) | refine aw_skip ?_ | refine aw_ret ?_ | refine aw_exit ?_ | refine aw_block ?_ | refine aw_label ?_) | refine tq_n ?_ | refine ng_n ?_ | refine ng_r ?_ | refine ng_x ?_ | refine ⟨(rfl : regOk _ _ = true), ?_⟩ | refine tq_r ?_ | refine tq_x ?_ | refine bq_n ?_ | refine bq_x ?_ | refine bq_r ?_ | refine bq_o rfl ?_ | refine fq_r rfl ?_ | refine fq_n rfl ?_)
  refine aw_loopX (fun (n : Nat) e => ⟨[(5, .dat (I n)), (1, .dat (.str k)), (2, .ptr (2, 0, 1) 0)], [((2, 0, 1), (ei v).map .dat)], [], e⟩) (fun n => n ≤ v.ents.length ∧ ∀ j, j < n → (v.ents.getD j default).key ≠ k) (fun n => v.ents.length - n) 0 _ (le_of ⟨rfl, rfl, rfl, trivial⟩ ⟨rfl, trivial⟩ trivial (Nat.le_refl _)) (by simp) ?_
  rintro n e ⟨hn, hk⟩
  repeat' (first | (refine is_cons ?_; first | (refine is_mv ?_; first | refine mv_val rfl ?_) | (refine is_as ?_; first | refine as_val rfl ?_ | refine as_new rfl rfl ?_) | (refine is_bo ?_; first | refine rl_binT rfl ?_ | refine rl_binF rfl ?_ | (refine rl_binB rfl ?_; intro _ _) | (refine rl_half rfl (by (try simp only [maxLen_eq, List.length_map, decide_eq_true_eq, decide_eq_false_iff_not] at *); omega) ?_) | (refine rl_binW rfl (by (try simp only [maxLen_eq, List.length_map, decide_eq_true_eq, decide_eq_false_iff_not] at *); omega) ?_) | refine bo_val rfl ?_) | (refine is_ld ?_; first | refine ld_load rfl (by first | refine lookM_hd | exact lookM_sl rfl lookM_hd | (repeat (first | refine lookM_hd | refine lookM_sl rfl ?_))) rfl (by (try simp only [nfA, T_md, Nat.reduceAdd]) <;> apply rfl) ?_ | refine ld_valn rfl (by (try simp only [nfA, T_md, Nat.reduceAdd]) <;> apply rfl) ?_) | (refine is_fa ?_; first | refine fa_valn rfl (by (try simp only [nfA, T_md, Nat.reduceAdd]) <;> apply rfl) ?_) | (refine is_bx ?_; first | refine bx_alloc rfl (by (try simp only [nfA, T_md, Nat.reduceAdd]) <;> apply rfl) ?_) | (refine is_ia ?_; first | (refine ia_elt rfl ?_ (fun _ _ => ?_))) | (refine is_bi ?_; first | refine bi_val rfl ?_ | refine bi_own rfl (by first | refine lookB_hd | exact lookB_tt lookB_hd | (repeat (first | refine lookB_hd | refine lookB_sl rfl ?_))) ?_ ?_ | refine bi_needN rfl ?_ ?_ | (refine bi_gated rfl (by (try simp only [nfA, T_md, Nat.reduceAdd]) <;> apply rfl) ?_; intro _))) | refine rl_nil ?_ | (refine is_aw ?_; first | refine aw_seq ?_ | refine aw_scope ?_ | refine aw_reg rfl ?_ | refine aw_draw rfl ?_ | refine aw_condT rfl ?_ | refine aw_condF rfl ?_ | (refine aw_condN rfl ?_ ?_ <;> (intro h; subst h)) | (refine aw_cond rfl ?_ ?_ <;> (intro h; subst h)) | refine aw_skip ?_ | refine aw_ret ?_ | refine aw_exit ?_ | refine aw_block ?_ | refine aw_label ?_) | refine tq_n ?_ | refine ng_n ?_ | refine ng_r ?_ | refine ng_x ?_ | refine ⟨(rfl : regOk _ _ = true), ?_⟩ | refine tq_r ?_ | refine tq_x ?_ | refine bq_n ?_ | refine bq_x ?_ | refine bq_r ?_ | refine bq_o rfl ?_ | refine fq_r rfl ?_ | refine fq_n rfl ?_)
  all_goals try (simp only [maxLen_eq, List.length_map, decide_eq_true_eq, decide_eq_false_iff_not, Int.toNat_natCast, Bool.not_eq_true', Bool.not_eq_false', Bool.not_eq_true, Bool.not_eq_false] at *; omega)
  · rename_i hl x hx hc
    simp only [maxLen_eq, List.length_map, decide_eq_true_eq, decide_eq_false_iff_not, Int.toNat_natCast, Bool.not_eq_true', Bool.not_eq_false', Bool.not_eq_true, Bool.not_eq_false] at *
    rw [atE_some (by omega) hk (by simp [List.getD, hx, hc])]; rfl
  · rename_i hl x hx hc
    simp only [maxLen_eq, List.length_map, decide_eq_true_eq, decide_eq_false_iff_not, Int.toNat_natCast, Bool.not_eq_true', Bool.not_eq_false', Bool.not_eq_true, Bool.not_eq_false] at *
    refine ⟨n + 1, _, by omega, le_of ⟨rfl, rfl, rfl, trivial⟩ ⟨rfl, trivial⟩ trivial (Nat.le_refl _), by omega, fun j hj => ?_⟩
    rcases Nat.lt_or_ge j n with q | q
    · exact hk j q
    · obtain rfl : j = n := by omega
      simp [List.getD, hx, hc]
  · simp only [maxLen_eq, List.length_map, decide_eq_true_eq, decide_eq_false_iff_not, Int.toNat_natCast, Bool.not_eq_true', Bool.not_eq_false', Bool.not_eq_true, Bool.not_eq_false] at *
    rw [atE_none fun j hj => hk j (by omega)]; rfl
theorem enter130 : EnterOk Tryz.prog 130 := EnterOk_of (fn := Tryz.f130) (by kernel_rfl) (by kernel_rfl) (by kernel_rfl)
theorem f130_calls (v : IView) (k : Str) : CallsD Tryz.prog 130 [.agg (ei v), .str k] (I (placeE v.ents k)) := by
  refine CallsD_bd enter130 fun hbd => CallsD_of good mixed (fn := Tryz.f130) (by kernel_rfl) rfl enter130 (Nat.le_of_ble_eq_true rfl) ?_
  show AWp _ _ _ _ _ ⟨[(0, _), (1, _)], [], [], 0⟩
  repeat' (first | (refine is_cons ?_; first | (refine is_g ?_; first | refine rl_on rfl rfl ?_ | refine rl_off rfl rfl ?_ | refine rl_offU rfl ?_ | (refine rl_case rfl ?_ ?_ <;> (intro h; first | subst h | (simp only [Bool.not_eq_true', Bool.not_eq_false'] at h; subst h)))) | (refine is_mv ?_; first | refine mv_val rfl ?_) | (refine is_as ?_; first | refine as_val rfl ?_ | refine as_new rfl rfl ?_) | (refine is_ld ?_; first | refine ld_load rfl (by first | refine lookM_hd | exact lookM_sl rfl lookM_hd | (repeat (first | refine lookM_hd | refine lookM_sl rfl ?_))) rfl (by (try simp only [nfA, T_md, Nat.reduceAdd]) <;> apply rfl) ?_ | refine ld_valn rfl (by (try simp only [nfA, T_md, Nat.reduceAdd]) <;> apply rfl) ?_) | (refine is_fa ?_; first | refine fa_valn rfl (by (try simp only [nfA, T_md, Nat.reduceAdd]) <;> apply rfl) ?_) | (refine is_bo ?_; first | refine rl_binT rfl ?_ | refine rl_binF rfl ?_ | (refine rl_binB rfl ?_; intro _ _) | (refine rl_half rfl (by (try simp only [maxLen_eq, List.length_map, decide_eq_true_eq, decide_eq_false_iff_not] at *); omega) ?_) | (refine rl_binW rfl (by (try simp only [maxLen_eq, List.length_map, decide_eq_true_eq, decide_eq_false_iff_not] at *); omega) ?_) | refine bo_val rfl ?_) | (refine is_pk ?_; first | refine pk_twoT rfl rfl ?_ | refine pk_twoF rfl rfl ?_ | (refine pk_case rfl ?_ ?_ <;> (intro h; subst h))) | (refine is_bx ?_; first | refine bx_alloc rfl (by (try simp only [nfA, T_md, Nat.reduceAdd]) <;> apply rfl) ?_) | (refine is_ia ?_; first | (refine ia_elt rfl ?_ (fun _ _ => ?_))) | (refine is_bi ?_; first | refine bi_val rfl ?_ | refine bi_own rfl (by first | refine lookB_hd | exact lookB_tt lookB_hd | (repeat (first | refine lookB_hd | refine lookB_sl rfl ?_))) ?_ ?_ | refine bi_needN rfl ?_ ?_ | (refine bi_gated rfl (by (try simp only [nfA, T_md, Nat.reduceAdd]) <;> apply rfl) ?_; intro _))) | refine rl_nil ?_ | (refine is_aw ?_; first | refine aw_seq ?_ | refine aw_scope ?_ | refine aw_reg rfl ?_ | refine aw_draw rfl ?_ | refine aw_condT rfl ?_ | refine aw_condF rfl ?_ | (refine aw_condN rfl ?_ ?_ <;> (intro h; subst h)) | (refine aw_cond rfl ?_ ?_ <;> (intro h; subst h)) | refine aw_skip ?_ | refine aw_ret ?_ | refine aw_exit ?_ | refine aw_block ?_ | refine aw_label ?_) | refine tq_n ?_ | refine ng_n ?_ | refine ng_r ?_ | refine ng_x ?_ | refine ⟨(rfl : regOk _ _ = true), ?_⟩ | refine tq_r ?_ | refine tq_x ?_ | refine bq_n ?_ | refine bq_x ?_ | refine bq_r ?_ | refine bq_o rfl ?_ | refine fq_r rfl ?_ | refine fq_n rfl ?_)
  refine aw_loopX (fun (n : Nat) e => ⟨[(5, .dat (I n)), (1, .dat (.str k)), (2, .ptr (2, 0, 1) 0)], [((2, 0, 1), (ei v).map .dat)], [], e⟩) (fun n => n ≤ placeE v.ents k) (fun n => v.ents.length - n) 0 _ (le_of ⟨rfl, rfl, rfl, trivial⟩ ⟨rfl, trivial⟩ trivial (Nat.le_refl _)) (by simp) ?_
  intro n e hn
  have hp := placeE_le v.ents k
  repeat' (first | (refine is_cons ?_; first | (refine is_g ?_; first | refine rl_on rfl rfl ?_ | refine rl_off rfl rfl ?_ | refine rl_offU rfl ?_ | (refine rl_case rfl ?_ ?_ <;> (intro h; first | subst h | (simp only [Bool.not_eq_true', Bool.not_eq_false'] at h; subst h)))) | (refine is_mv ?_; first | refine mv_val rfl ?_) | (refine is_as ?_; first | refine as_val rfl ?_ | refine as_new rfl rfl ?_) | (refine is_ld ?_; first | refine ld_load rfl (by first | refine lookM_hd | exact lookM_sl rfl lookM_hd | (repeat (first | refine lookM_hd | refine lookM_sl rfl ?_))) rfl (by (try simp only [nfA, T_md, Nat.reduceAdd]) <;> apply rfl) ?_ | refine ld_valn rfl (by (try simp only [nfA, T_md, Nat.reduceAdd]) <;> apply rfl) ?_) | (refine is_fa ?_; first | refine fa_valn rfl (by (try simp only [nfA, T_md, Nat.reduceAdd]) <;> apply rfl) ?_) | (refine is_bo ?_; first | refine rl_binT rfl ?_ | refine rl_binF rfl ?_ | (refine rl_binB rfl ?_; intro _ _) | (refine rl_half rfl (by (try simp only [maxLen_eq, List.length_map, decide_eq_true_eq, decide_eq_false_iff_not] at *); omega) ?_) | (refine rl_binW rfl (by (try simp only [maxLen_eq, List.length_map, decide_eq_true_eq, decide_eq_false_iff_not] at *); omega) ?_) | refine bo_val rfl ?_) | (refine is_pk ?_; first | refine pk_twoT rfl rfl ?_ | refine pk_twoF rfl rfl ?_ | (refine pk_case rfl ?_ ?_ <;> (intro h; subst h))) | (refine is_bx ?_; first | refine bx_alloc rfl (by (try simp only [nfA, T_md, Nat.reduceAdd]) <;> apply rfl) ?_) | (refine is_ia ?_; first | (refine ia_elt rfl ?_ (fun _ _ => ?_))) | (refine is_bi ?_; first | refine bi_val rfl ?_ | refine bi_own rfl (by first | refine lookB_hd | exact lookB_tt lookB_hd | (repeat (first | refine lookB_hd | refine lookB_sl rfl ?_))) ?_ ?_ | refine bi_needN rfl ?_ ?_ | (refine bi_gated rfl (by (try simp only [nfA, T_md, Nat.reduceAdd]) <;> apply rfl) ?_; intro _)) | (refine is_cf 72 ?_; first | (refine cfB (f72_calls _ _) rfl ⟨.inl rfl, .inl rfl, trivial⟩ ?_; intro _ _) | (refine cfB (f72_calls _ _) rfl ⟨(by first | exact .inl rfl | exact .inr (.inl rfl) | exact .inr (.inr ⟨_, _, rfl, rfl⟩)), (by first | exact .inl rfl | exact .inr (.inl rfl) | exact .inr (.inr ⟨_, _, rfl, rfl⟩)), trivial⟩ ?_; intro _ _))) | refine rl_nil ?_ | (refine is_aw ?_; first | refine aw_seq ?_ | refine aw_scope ?_ | refine aw_reg rfl ?_ | refine aw_draw rfl ?_ | refine aw_condT rfl ?_ | refine aw_condF rfl ?_ | (refine aw_condN rfl ?_ ?_ <;> (intro h; subst h)) | (refine aw_cond rfl ?_ ?_ <;> (intro h; subst h)) | refine aw_skip ?_ | refine aw_ret ?_ | refine aw_exit ?_ | refine aw_block ?_ | refine aw_label ?_) | refine tq_n ?_ | refine ng_n ?_ | refine ng_r ?_ | refine ng_x ?_ | refine ⟨(rfl : regOk _ _ = true), ?_⟩ | refine tq_r ?_ | refine tq_x ?_ | refine bq_n ?_ | refine bq_x ?_ | refine bq_r ?_ | refine bq_o rfl ?_ | refine fq_r rfl ?_ | refine fq_n rfl ?_)
  all_goals try (simp only [maxLen_eq, List.length_map, decide_eq_true_eq, decide_eq_false_iff_not, Int.toNat_natCast, Bool.not_eq_true', Bool.not_eq_false', Bool.not_eq_true, Bool.not_eq_false] at *; omega)
  · rename_i hl x hx hc
    simp only [maxLen_eq, List.length_map, decide_eq_true_eq, decide_eq_false_iff_not, Int.toNat_natCast, Bool.not_eq_true', Bool.not_eq_false', Bool.not_eq_true, Bool.not_eq_false] at *
    have h1 := (placeE_at hn hx).1 hc
    exact ⟨n + 1, _, by omega, le_of ⟨rfl, rfl, rfl, trivial⟩ ⟨rfl, trivial⟩ trivial (Nat.le_refl _), h1⟩
  · rename_i hl x hx hc
    simp only [maxLen_eq, List.length_map, decide_eq_true_eq, decide_eq_false_iff_not, Int.toNat_natCast, Bool.not_eq_true', Bool.not_eq_false', Bool.not_eq_true, Bool.not_eq_false] at *
    have h1 := placeE_at hn hx
    rw [hc] at h1
    have h2 : placeE v.ents k = n := by
      rcases Nat.lt_or_ge n (placeE v.ents k) with q | q
      · exact absurd (h1.2 q) (by simp)
      · omega
    rw [h2]; rfl
  · simp only [maxLen_eq, List.length_map, decide_eq_true_eq, decide_eq_false_iff_not, Int.toNat_natCast, Bool.not_eq_true', Bool.not_eq_false', Bool.not_eq_true, Bool.not_eq_false] at *
    have h2 : placeE v.ents k = n := by omega
    rw [h2]; rfl
theorem enter34 : EnterOk Tryz.prog 34 := EnterOk_of (fn := Tryz.f34) (by kernel_rfl) (by kernel_rfl) (by kernel_rfl)
theorem f34_calls (v : IView) (k : Str) (hu : Up v.ents) : CallsD Tryz.prog 34 [.agg (ei v), .str k] (encRC (childI v k)) := by
  refine CallsD_bd enter34 fun hbd => CallsD_of good mixed (fn := Tryz.f34) (by kernel_rfl) rfl enter34 (Nat.le_of_ble_eq_true rfl) ?_
  show AWp _ _ _ _ _ ⟨[(0, _), (1, _)], [], [], 0⟩
  repeat' (first | (refine is_cons ?_; first | (refine is_g ?_; first | refine rl_on rfl rfl ?_ | refine rl_off rfl rfl ?_ | refine rl_offU rfl ?_ | (refine rl_case rfl ?_ ?_ <;> (intro h; first | subst h | (simp only [Bool.not_eq_true', Bool.not_eq_false'] at h; subst h)))) | (refine is_mv ?_; first | refine mv_val rfl ?_) | (refine is_as ?_; first | refine as_val rfl ?_ | refine as_new rfl rfl ?_) | (refine is_ld ?_; first | refine ld_load rfl (by first | refine lookM_hd | exact lookM_sl rfl lookM_hd | (repeat (first | refine lookM_hd | refine lookM_sl rfl ?_))) rfl (by (try simp only [nfA, T_md, Nat.reduceAdd]) <;> apply rfl) ?_ | refine ld_valn rfl (by (try simp only [nfA, T_md, Nat.reduceAdd]) <;> apply rfl) ?_) | (refine is_fa ?_; first | refine fa_valn rfl (by (try simp only [nfA, T_md, Nat.reduceAdd]) <;> apply rfl) ?_) | (refine is_st ?_; first | refine st_store rfl (by first | refine lookM_hd | exact lookM_sl rfl lookM_hd | (repeat (first | refine lookM_hd | refine lookM_sl rfl ?_))) rfl (by (try simp only [nfA, T_md, Nat.reduceAdd]) <;> apply rfl) ?_) | (refine is_uo ?_; first | refine uo_val rfl ?_) | (refine is_bo ?_; first | refine rl_binT rfl ?_ | refine rl_binF rfl ?_ | (refine rl_binB rfl ?_; intro _ _) | (refine rl_half rfl (by (try simp only [maxLen_eq, List.length_map, decide_eq_true_eq, decide_eq_false_iff_not] at *); omega) ?_) | (refine rl_binW rfl (by (try simp only [maxLen_eq, List.length_map, decide_eq_true_eq, decide_eq_false_iff_not] at *); omega) ?_) | refine bo_val rfl ?_) | (refine is_pk ?_; first | refine pk_twoT rfl rfl ?_ | refine pk_twoF rfl rfl ?_ | (refine pk_case rfl ?_ ?_ <;> (intro h; subst h))) | (refine is_al ?_; first | refine al_alloc rfl (by (try simp only [nfA, T_md, Nat.reduceAdd]) <;> apply rfl) ?_) | (refine is_bd ?_; first | refine bd_valn rfl (by (try simp only [nfA, T_md, Nat.reduceAdd]) <;> apply rfl) ?_) | (refine is_ia ?_; first | (refine ia_elt rfl ?_ (fun _ _ => ?_))) | (refine is_bx ?_; first | refine bx_alloc rfl (by (try simp only [nfA, T_md, Nat.reduceAdd]) <;> apply rfl) ?_) | (refine is_bi ?_; first | refine bi_val rfl ?_ | refine bi_own rfl (by first | refine lookB_hd | exact lookB_tt lookB_hd | (repeat (first | refine lookB_hd | refine lookB_sl rfl ?_))) ?_ ?_ | refine bi_needN rfl ?_ ?_ | (refine bi_gated rfl (by (try simp only [nfA, T_md, Nat.reduceAdd]) <;> apply rfl) ?_; intro _))) | refine rl_nil ?_ | (refine is_aw ?_; first | refine aw_seq ?_ | refine aw_scope ?_ | refine aw_reg rfl ?_ | refine aw_draw rfl ?_ | refine aw_condT rfl ?_ | refine aw_condF rfl ?_ | (refine aw_condN rfl ?_ ?_ <;> (intro h; subst h)) | (refine aw_cond rfl ?_ ?_ <;> (intro h; subst h)) | refine aw_skip ?_ | refine aw_ret ?_ | refine aw_exit ?_ | refine aw_block ?_ | refine aw_label ?_) | refine tq_n ?_ | refine ng_n ?_ | refine ng_r ?_ | refine ng_x ?_ | refine ⟨(rfl : regOk _ _ = true), ?_⟩ | refine tq_r ?_ | refine tq_x ?_ | refine bq_n ?_ | refine bq_x ?_ | refine bq_r ?_ | refine bq_o rfl ?_ | refine fq_r rfl ?_ | refine fq_n rfl ?_)
  have hql := childI_le (l := v.ents) (k := k)
  have hch : childI v k = if !hasI v k || decide (placeE v.ents k + (if thereE v.ents k then 1 else 0) = 0) then none else v.ents[placeE v.ents k + (if thereE v.ents k then 1 else 0) - 1]? := rfl
  have hle := fun i x hx => le_iff (k := k) (i := i) (x := x) hu hx
  generalize placeE v.ents k + (if thereE v.ents k then 1 else 0) = Q at hql hch hle
  refine aw_loopX (fun (n : Nat) e => ⟨[(8, .dat (I n)), (7, .dat (.bool (decide (0 < n)))), (1, .dat (.str k)), (2, .ptr (2, 0, 1) 0), (4, .ptr (4, 0, 1) 0), (6, .ptr (6, 0, 2) 0)], [((2, 0, 1), (ei v).map .dat), ((4, 0, 1), [.dat (.str []), .dat (I 0)]), ((6, 0, 2), (ee (if n = 0 then noEntry else v.ents.getD (n - 1) default)).map .dat)], [], e⟩) (fun n => n ≤ Q) (fun n => v.ents.length - n) 0 _ (le_of ⟨rfl, rfl, rfl, rfl, rfl, rfl, trivial⟩ ⟨rfl, rfl, rfl, trivial⟩ trivial (Nat.le_refl _)) (by simp) ?_
  intro n e hn
  generalize hO : (if n = 0 then noEntry else v.ents.getD (n - 1) default) = O
  generalize hD : decide (0 < n) = D
  repeat' (first | (refine is_cons ?_; first | (refine is_g ?_; first | refine rl_on rfl rfl ?_ | refine rl_off rfl rfl ?_ | refine rl_offU rfl ?_ | (refine rl_case rfl ?_ ?_ <;> (intro h; first | subst h | (simp only [Bool.not_eq_true', Bool.not_eq_false'] at h; subst h)))) | (refine is_mv ?_; first | refine mv_val rfl ?_) | (refine is_as ?_; first | refine as_val rfl ?_ | refine as_new rfl rfl ?_) | (refine is_ld ?_; first | refine ld_load rfl (by first | refine lookM_hd | exact lookM_sl rfl lookM_hd | (repeat (first | refine lookM_hd | refine lookM_sl rfl ?_))) rfl (by (try simp only [nfA, T_md, Nat.reduceAdd]) <;> apply rfl) ?_ | refine ld_valn rfl (by (try simp only [nfA, T_md, Nat.reduceAdd]) <;> apply rfl) ?_) | (refine is_fa ?_; first | refine fa_valn rfl (by (try simp only [nfA, T_md, Nat.reduceAdd]) <;> apply rfl) ?_) | (refine is_st ?_; first | refine st_store rfl (by first | refine lookM_hd | exact lookM_sl rfl lookM_hd | (repeat (first | refine lookM_hd | refine lookM_sl rfl ?_))) rfl (by (try simp only [nfA, T_md, Nat.reduceAdd]) <;> apply rfl) ?_) | (refine is_uo ?_; first | refine uo_val rfl ?_) | (refine is_bo ?_; first | refine rl_binT rfl ?_ | refine rl_binF rfl ?_ | (refine rl_binB rfl ?_; intro _ _) | (refine rl_half rfl (by (try simp only [maxLen_eq, List.length_map, decide_eq_true_eq, decide_eq_false_iff_not] at *); omega) ?_) | (refine rl_binW rfl (by (try simp only [maxLen_eq, List.length_map, decide_eq_true_eq, decide_eq_false_iff_not] at *); omega) ?_) | refine bo_val rfl ?_) | (refine is_pk ?_; first | refine pk_twoT rfl rfl ?_ | refine pk_twoF rfl rfl ?_ | (refine pk_case rfl ?_ ?_ <;> (intro h; subst h))) | (refine is_al ?_; first | refine al_alloc rfl (by (try simp only [nfA, T_md, Nat.reduceAdd]) <;> apply rfl) ?_) | (refine is_bd ?_; first | refine bd_valn rfl (by (try simp only [nfA, T_md, Nat.reduceAdd]) <;> apply rfl) ?_) | (refine is_ia ?_; first | (refine ia_elt rfl ?_ (fun _ _ => ?_))) | (refine is_bx ?_; first | refine bx_alloc rfl (by (try simp only [nfA, T_md, Nat.reduceAdd]) <;> apply rfl) ?_) | (refine is_bi ?_; first | refine bi_val rfl ?_ | refine bi_own rfl (by first | refine lookB_hd | exact lookB_tt lookB_hd | (repeat (first | refine lookB_hd | refine lookB_sl rfl ?_))) ?_ ?_ | refine bi_needN rfl ?_ ?_ | (refine bi_gated rfl (by (try simp only [nfA, T_md, Nat.reduceAdd]) <;> apply rfl) ?_; intro _)) | (refine is_cf 72 ?_; first | (refine cfB (f72_calls _ _) rfl ⟨.inl rfl, .inl rfl, trivial⟩ ?_; intro _ _) | (refine cfB (f72_calls _ _) rfl ⟨(by first | exact .inl rfl | exact .inr (.inl rfl) | exact .inr (.inr ⟨_, _, rfl, rfl⟩)), (by first | exact .inl rfl | exact .inr (.inl rfl) | exact .inr (.inr ⟨_, _, rfl, rfl⟩)), trivial⟩ ?_; intro _ _)) | (refine is_cf 84 ?_; first | (refine cfB (f84_calls v _) rfl ⟨.inl rfl, .inl rfl, trivial⟩ ?_; intro _ _) | (refine cfB (f84_calls v _) rfl ⟨(by first | exact .inl rfl | exact .inr (.inl rfl) | exact .inr (.inr ⟨_, _, rfl, rfl⟩)), (by first | exact .inl rfl | exact .inr (.inl rfl) | exact .inr (.inr ⟨_, _, rfl, rfl⟩)), trivial⟩ ?_; intro _ _))) | refine rl_nil ?_ | (refine is_aw ?_; first | refine aw_seq ?_ | refine aw_scope ?_ | refine aw_reg rfl ?_ | refine aw_draw rfl ?_ | refine aw_condT rfl ?_ | refine aw_condF rfl ?_ | (refine aw_condN rfl ?_ ?_ <;> (intro h; subst h)) | (refine aw_cond rfl ?_ ?_ <;> (intro h; subst h)) | refine aw_skip ?_ | refine aw_ret ?_ | refine aw_exit ?_ | refine aw_block ?_ | refine aw_label ?_) | refine tq_n ?_ | refine ng_n ?_ | refine ng_r ?_ | refine ng_x ?_ | refine ⟨(rfl : regOk _ _ = true), ?_⟩ | refine tq_r ?_ | refine tq_x ?_ | refine bq_n ?_ | refine bq_x ?_ | refine bq_r ?_ | refine bq_o rfl ?_ | refine fq_r rfl ?_ | refine fq_n rfl ?_)
  all_goals try (simp only [maxLen_eq, List.length_map, decide_eq_true_eq, decide_eq_false_iff_not, Int.toNat_natCast, Bool.not_eq_true', Bool.not_eq_false', Bool.not_eq_true, Bool.not_eq_false] at *; omega)
  · rename_i hl x1 hx1 hc x hx
    simp only [maxLen_eq, List.length_map, decide_eq_true_eq, decide_eq_false_iff_not, Int.toNat_natCast, Bool.not_eq_true', Bool.not_eq_false', Bool.not_eq_true, Bool.not_eq_false] at *
    rw [hx] at hx1; cases hx1
    have h1 := (hle n _ hx).1 hc
    refine ⟨n + 1, _, by omega, le_of ⟨rfl, (by rw [show decide (0 < n + 1) = true by simp]; rfl), rfl, rfl, rfl, rfl, trivial⟩ ⟨rfl, rfl, (by rw [if_neg (by omega), show n + 1 - 1 = n by omega, show v.ents.getD n default = x1 by simp [List.getD, hx]]; refine lookM_hd), trivial⟩ trivial (Nat.le_refl _), h1⟩
  all_goals
    have hnQ : n = Q := by
      first
        | (rename_i x hx hc
           simp only [maxLen_eq, List.length_map, decide_eq_true_eq, decide_eq_false_iff_not, Int.toNat_natCast, Bool.not_eq_true', Bool.not_eq_false', Bool.not_eq_true, Bool.not_eq_false] at *
           have h1 := hle n x hx
           rw [hc] at h1
           rcases Nat.lt_or_ge n Q with q | q
           · exact absurd (h1.2 q) (by simp)
           · omega)
        | (rename_i x hx hc _
           simp only [maxLen_eq, List.length_map, decide_eq_true_eq, decide_eq_false_iff_not, Int.toNat_natCast, Bool.not_eq_true', Bool.not_eq_false', Bool.not_eq_true, Bool.not_eq_false] at *
           have h1 := hle n x hx
           rw [hc] at h1
           rcases Nat.lt_or_ge n Q with q | q
           · exact absurd (h1.2 q) (by simp)
           · omega)
        | (simp only [maxLen_eq, List.length_map, decide_eq_true_eq, decide_eq_false_iff_not, Int.toNat_natCast, Bool.not_eq_true', Bool.not_eq_false', Bool.not_eq_true, Bool.not_eq_false] at *; omega)
    subst hnQ
    rw [hch]
    first
      | (simp only [decide_eq_false_iff_not] at hD
         rw [if_pos (by simp; right; omega)]; rfl)
      | (rw [if_pos (by simp [*])]; rfl)
      | (simp only [decide_eq_true_eq] at hD
         rw [if_neg (by simp [*]; omega)]
         rw [if_neg (by omega)] at hO
         have hlt : n - 1 < v.ents.length := by omega
         have : v.ents[n - 1]? = some O := by rw [← hO]; simp [List.getD, hlt]
         rw [this]; rfl)
end Go.Proofs.YtbeafnkcimfeeaaGreatDoor.AM.TT
-- tt
namespace Go.Proofs.YtbeafnkcimfeeaaGreatDoor.AM.TT
set_option linter.unusedVariables false
set_option linter.unusedSimpArgs false
open Go Go.Proofs.YtbeafnkcimfeeaaGreatDoor.AM Go.Proofs
set_option linter.unusedSimpArgs false
set_option linter.unusedVariables false
set_option maxHeartbeats 1000000
attribute [local irreducible] RunL AWp StepK OpK thenQ blockQ noGotoQ fnQ fnEQ
theorem rising_no1 {v : IView} {n : Nat} {x : Entry} (hx : v.ents[n]? = some x) (hf : hasI v x.key = false) : risingI v = false := by
  rw [Bool.eq_false_iff]
  intro q
  have := (risingI_iff.1 q n (List.getElem?_eq_some_iff.1 hx).1).1
  rw [show v.ents.getD n default = x by simp [List.getD, hx], hf] at this
  cases this
theorem rising_no2 {v : IView} {n : Nat} {x z : Entry} (hx : v.ents[n]? = some x) (hz : v.ents[n - 1]? = some z) (h0 : 0 < n) (hc : lt z.key x.key = false) : risingI v = false := by
  rw [Bool.eq_false_iff]
  intro q
  have := (risingI_iff.1 q n (List.getElem?_eq_some_iff.1 hx).1).2 h0
  rw [show v.ents.getD n default = x by simp [List.getD, hx], show v.ents.getD (n - 1) default = z by simp [List.getD, hz], hc] at this
  cases this
theorem enter128 : EnterOk Tryz.prog 128 := EnterOk_of (fn := Tryz.f128) (by kernel_rfl) (by kernel_rfl) (by kernel_rfl)
theorem f128_calls (v : IView) : CallsD Tryz.prog 128 [.agg (ei v)] (.bool (soundI v)) := by
  refine CallsD_bd enter128 fun hbd => CallsD_of good mixed (fn := Tryz.f128) (by kernel_rfl) rfl enter128 (Nat.le_of_ble_eq_true rfl) ?_
  show AWp _ _ _ _ _ ⟨[(0, _)], [], [], 0⟩
  have hb := bd_ei (hbd (.agg (ei v)) (by simp))
  obtain ⟨vl, vh, vu, vr, es, hd, hold⟩ := v
  simp only at hb
  obtain ⟨u', hu⟩ : ∃ x, x = vu := ⟨_, rfl⟩
  repeat' (first | (refine is_cons ?_; first | (refine is_g ?_; first | refine rl_on rfl rfl ?_ | refine rl_off rfl rfl ?_ | refine rl_offU rfl ?_ | (refine rl_case rfl ?_ ?_ <;> (intro h; first | subst h | (simp only [Bool.not_eq_true', Bool.not_eq_false'] at h; subst h)))) | (refine is_ld ?_; first | refine ld_load rfl (by first | refine lookM_hd | exact lookM_sl rfl lookM_hd | (repeat (first | refine lookM_hd | refine lookM_sl rfl ?_))) rfl (by (try simp only [nfA, T_md, Nat.reduceAdd]) <;> apply rfl) ?_ | refine ld_valn rfl (by (try simp only [nfA, T_md, Nat.reduceAdd]) <;> apply rfl) ?_) | (refine is_fa ?_; first | refine fa_valn rfl (by (try simp only [nfA, T_md, Nat.reduceAdd]) <;> apply rfl) ?_) | (refine is_mv ?_; first | refine mv_val rfl ?_) | (refine is_bo ?_; first | refine rl_binT rfl ?_ | refine rl_binF rfl ?_ | (refine rl_binB rfl ?_; intro _ _) | (refine rl_half rfl (by (try simp only [maxLen_eq, List.length_map, decide_eq_true_eq, decide_eq_false_iff_not] at *); omega) ?_) | (refine rl_binW rfl (by (try simp only [maxLen_eq, List.length_map, decide_eq_true_eq, decide_eq_false_iff_not] at *); omega) ?_) | refine bo_val rfl ?_) | (refine is_as ?_; first | refine as_val rfl ?_ | refine as_new rfl rfl ?_) | (refine is_pk ?_; first | refine pk_twoT rfl rfl ?_ | refine pk_twoF rfl rfl ?_ | (refine pk_case rfl ?_ ?_ <;> (intro h; subst h))) | (refine is_ia ?_; first | (refine ia_elt rfl ?_ (fun _ _ => ?_))) | (refine is_uo ?_; first | refine uo_val rfl ?_) | (refine is_bx ?_; first | refine bx_alloc rfl (by (try simp only [nfA, T_md, Nat.reduceAdd]) <;> apply rfl) ?_) | (refine is_bi ?_; first | refine bi_val rfl ?_ | refine bi_own rfl (by first | refine lookB_hd | exact lookB_tt lookB_hd | (repeat (first | refine lookB_hd | refine lookB_sl rfl ?_))) ?_ ?_ | refine bi_needN rfl ?_ ?_ | (refine bi_gated rfl (by (try simp only [nfA, T_md, Nat.reduceAdd]) <;> apply rfl) ?_; intro _))) | refine rl_nil ?_ | (refine is_aw ?_; first | refine aw_seq ?_ | refine aw_scope ?_ | refine aw_reg rfl ?_ | refine aw_draw rfl ?_ | refine aw_condT rfl ?_ | refine aw_condF rfl ?_ | (refine aw_condN rfl ?_ ?_ <;> (intro h; subst h)) | (refine aw_cond rfl ?_ ?_ <;> (intro h; subst h)) | refine aw_skip ?_ | refine aw_ret ?_ | refine aw_exit ?_ | refine aw_block ?_ | refine aw_label ?_) | refine tq_n ?_ | refine ng_n ?_ | refine ng_r ?_ | refine ng_x ?_ | refine ⟨(rfl : regOk _ _ = true), ?_⟩ | refine tq_r ?_ | refine tq_x ?_ | refine bq_n ?_ | refine bq_x ?_ | refine bq_r ?_ | refine bq_o rfl ?_ | refine fq_r rfl ?_ | refine fq_n rfl ?_)
  all_goals try (simp only [maxLen_eq, List.length_map, decide_eq_true_eq, decide_eq_false_iff_not, Int.toNat_natCast, Bool.not_eq_true', Bool.not_eq_false', Bool.not_eq_true, Bool.not_eq_false] at *; omega)
  · simp only [maxLen_eq, List.length_map, decide_eq_true_eq, decide_eq_false_iff_not, Int.toNat_natCast, Bool.not_eq_true', Bool.not_eq_false', Bool.not_eq_true, Bool.not_eq_false] at *; simp_all [normD, norm1, soundI]
  · rename_i h1 x hx hc; simp only [maxLen_eq, List.length_map, decide_eq_true_eq, decide_eq_false_iff_not, Int.toNat_natCast, Bool.not_eq_true', Bool.not_eq_false', Bool.not_eq_true, Bool.not_eq_false] at *
    have h0 : es.head? = some x := by rw [List.head?_eq_getElem?]; exact hx
    simp [normD, norm1, soundI, h0, hc]
  · rename_i h1 x hx hc hd2; simp only [maxLen_eq, List.length_map, decide_eq_true_eq, decide_eq_false_iff_not, Int.toNat_natCast, Bool.not_eq_true', Bool.not_eq_false', Bool.not_eq_true, Bool.not_eq_false] at *
    simp_all [normD, norm1, soundI]
  all_goals
    have hsd : soundI ⟨vl, vh, u', vr, es, hd, hold⟩ = risingI ⟨vl, vh, u', vr, es, hd, hold⟩ := by
      first
        | (rename_i h1 x hx hc hd2
           have h0 : es.head? = some x := by rw [List.head?_eq_getElem?]; exact hx
           simp only [maxLen_eq, List.length_map, decide_eq_true_eq, decide_eq_false_iff_not, Int.toNat_natCast, Bool.not_eq_true', Bool.not_eq_false', Bool.not_eq_true, Bool.not_eq_false] at *
           simp_all [soundI]; done)
        | (rename_i h1 x hx hc
           have h0 : es.head? = some x := by rw [List.head?_eq_getElem?]; exact hx
           simp only [maxLen_eq, List.length_map, decide_eq_true_eq, decide_eq_false_iff_not, Int.toNat_natCast, Bool.not_eq_true', Bool.not_eq_false', Bool.not_eq_true, Bool.not_eq_false] at *
           simp_all [soundI]; done)
    refine aw_loopX (fun (n : Nat) e => ⟨[(3, .dat (I n)), (1, .ptr (1, 0, 1) 0)], [((1, 0, 1), (ei ⟨vl, vh, u', vr, es, hd, hold⟩).map .dat)], [], e⟩) (fun n => n ≤ es.length ∧ ∀ j, j < n → hasI ⟨vl, vh, u', vr, es, hd, hold⟩ (es.getD j default).key = true ∧ (0 < j → lt (es.getD (j - 1) default).key (es.getD j default).key = true)) (fun n => es.length - n) 0 _ (le_of ⟨rfl, rfl, trivial⟩ ⟨(by rw [hu]; rfl), trivial⟩ trivial (Nat.le_refl _)) (by simp) ?_
    rintro n e ⟨hn, hk⟩
    subst hu
    rw [hsd]
    clear hsd hbd
    repeat' (first | (refine is_cons ?_; first | (refine is_g ?_; first | refine rl_on rfl rfl ?_ | refine rl_off rfl rfl ?_ | refine rl_offU rfl ?_ | (refine rl_case rfl ?_ ?_ <;> (intro h; first | subst h | (simp only [Bool.not_eq_true', Bool.not_eq_false'] at h; subst h)))) | (refine is_ld ?_; first | refine ld_load rfl (by first | refine lookM_hd | exact lookM_sl rfl lookM_hd | (repeat (first | refine lookM_hd | refine lookM_sl rfl ?_))) rfl (by (try simp only [nfA, T_md, Nat.reduceAdd]) <;> apply rfl) ?_ | refine ld_valn rfl (by (try simp only [nfA, T_md, Nat.reduceAdd]) <;> apply rfl) ?_) | (refine is_fa ?_; first | refine fa_valn rfl (by (try simp only [nfA, T_md, Nat.reduceAdd]) <;> apply rfl) ?_) | (refine is_mv ?_; first | refine mv_val rfl ?_) | (refine is_bo ?_; first | refine rl_binT rfl ?_ | refine rl_binF rfl ?_ | (refine rl_binB rfl ?_; intro _ _) | (refine rl_half rfl (by (try simp only [maxLen_eq, List.length_map, decide_eq_true_eq, decide_eq_false_iff_not] at *); omega) ?_) | (refine rl_binW rfl (by (try simp only [maxLen_eq, List.length_map, decide_eq_true_eq, decide_eq_false_iff_not] at *); omega) ?_) | refine bo_val rfl ?_) | (refine is_as ?_; first | refine as_val rfl ?_ | refine as_new rfl rfl ?_) | (refine is_pk ?_; first | refine pk_twoT rfl rfl ?_ | refine pk_twoF rfl rfl ?_ | (refine pk_case rfl ?_ ?_ <;> (intro h; subst h))) | (refine is_ia ?_; first | (refine ia_elt rfl ?_ (fun _ _ => ?_))) | (refine is_uo ?_; first | refine uo_val rfl ?_) | (refine is_bx ?_; first | refine bx_alloc rfl (by (try simp only [nfA, T_md, Nat.reduceAdd]) <;> apply rfl) ?_) | (refine is_bi ?_; first | refine bi_val rfl ?_ | refine bi_own rfl (by first | refine lookB_hd | exact lookB_tt lookB_hd | (repeat (first | refine lookB_hd | refine lookB_sl rfl ?_))) ?_ ?_ | refine bi_needN rfl ?_ ?_ | (refine bi_gated rfl (by (try simp only [nfA, T_md, Nat.reduceAdd]) <;> apply rfl) ?_; intro _)) | (refine is_cf 84 ?_; first | (refine cfB (f84_calls ⟨vl, vh, _, vr, es, hd, hold⟩ _) rfl ⟨.inl rfl, .inl rfl, trivial⟩ ?_; intro _ _) | (refine cfB (f84_calls ⟨vl, vh, _, vr, es, hd, hold⟩ _) rfl ⟨(by first | exact .inl rfl | exact .inr (.inl rfl) | exact .inr (.inr ⟨_, _, rfl, rfl⟩)), (by first | exact .inl rfl | exact .inr (.inl rfl) | exact .inr (.inr ⟨_, _, rfl, rfl⟩)), trivial⟩ ?_; intro _ _)) | (refine is_cf 72 ?_; first | (refine cfB (f72_calls _ _) rfl ⟨.inl rfl, .inl rfl, trivial⟩ ?_; intro _ _) | (refine cfB (f72_calls _ _) rfl ⟨(by first | exact .inl rfl | exact .inr (.inl rfl) | exact .inr (.inr ⟨_, _, rfl, rfl⟩)), (by first | exact .inl rfl | exact .inr (.inl rfl) | exact .inr (.inr ⟨_, _, rfl, rfl⟩)), trivial⟩ ?_; intro _ _))) | refine rl_nil ?_ | (refine is_aw ?_; first | refine aw_seq ?_ | refine aw_scope ?_ | refine aw_reg rfl ?_ | refine aw_draw rfl ?_ | refine aw_condT rfl ?_ | refine aw_condF rfl ?_ | (refine aw_condN rfl ?_ ?_ <;> (intro h; subst h)) | (refine aw_cond rfl ?_ ?_ <;> (intro h; subst h)) | refine aw_skip ?_ | refine aw_ret ?_ | refine aw_exit ?_ | refine aw_block ?_ | refine aw_label ?_) | refine tq_n ?_ | refine ng_n ?_ | refine ng_r ?_ | refine ng_x ?_ | refine ⟨(rfl : regOk _ _ = true), ?_⟩ | refine tq_r ?_ | refine tq_x ?_ | refine bq_n ?_ | refine bq_x ?_ | refine bq_r ?_ | refine bq_o rfl ?_ | refine fq_r rfl ?_ | refine fq_n rfl ?_)
  all_goals try (simp only [maxLen_eq, List.length_map, decide_eq_true_eq, decide_eq_false_iff_not, Int.toNat_natCast, Bool.not_eq_true', Bool.not_eq_false', Bool.not_eq_true, Bool.not_eq_false] at *; omega)
  all_goals first
    | (rename_i hl y hy hf
       simp only [maxLen_eq, List.length_map, decide_eq_true_eq, decide_eq_false_iff_not, Int.toNat_natCast, Bool.not_eq_true', Bool.not_eq_false', Bool.not_eq_true, Bool.not_eq_false] at *
       exact (congrArg DV.bool (rising_no1 hy hf)).symm)
    | (rename_i hl y1 hy1 hf hz z hzz y hy hc
       simp only [maxLen_eq, List.length_map, decide_eq_true_eq, decide_eq_false_iff_not, Int.toNat_natCast, Bool.not_eq_true', Bool.not_eq_false', Bool.not_eq_true, Bool.not_eq_false] at *
       have e1 : ((n : Int) - 1).toNat = n - 1 := by omega
       rw [e1] at hzz
       exact (congrArg DV.bool (rising_no2 hy hzz (by omega) hc)).symm)
    | (rename_i hl y1 hy1 hf hz z hzz y hy hc
       simp only [maxLen_eq, List.length_map, decide_eq_true_eq, decide_eq_false_iff_not, Int.toNat_natCast, Bool.not_eq_true', Bool.not_eq_false', Bool.not_eq_true, Bool.not_eq_false] at *
       have e1 : ((n : Int) - 1).toNat = n - 1 := by omega
       rw [e1] at hzz
       rw [hy] at hy1; cases hy1
       refine ⟨n + 1, _, by omega, le_of ⟨rfl, rfl, trivial⟩ ⟨rfl, trivial⟩ trivial (Nat.le_refl _), by omega, fun j hj => ?_⟩
       rcases Nat.lt_or_ge j n with h1 | h1
       · exact hk j h1
       · have : j = n := by omega
         subst this
         rw [show es.getD j default = y1 by simp [List.getD, hy], show es.getD (j - 1) default = z by simp [List.getD, hzz]]
         exact ⟨hf, fun _ => hc⟩)
    | (rename_i hl y hy hf hz
       simp only [maxLen_eq, List.length_map, decide_eq_true_eq, decide_eq_false_iff_not, Int.toNat_natCast, Bool.not_eq_true', Bool.not_eq_false', Bool.not_eq_true, Bool.not_eq_false] at *
       refine ⟨n + 1, _, by omega, le_of ⟨rfl, rfl, trivial⟩ ⟨rfl, trivial⟩ trivial (Nat.le_refl _), by omega, fun j hj => ?_⟩
       rcases Nat.lt_or_ge j n with h1 | h1
       · exact hk j h1
       · have : j = n := by omega
         subst this
         rw [show es.getD j default = y by simp [List.getD, hy]]
         exact ⟨hf, fun q => by omega⟩)
    | (simp only [maxLen_eq, List.length_map, decide_eq_true_eq, decide_eq_false_iff_not, Int.toNat_natCast, Bool.not_eq_true', Bool.not_eq_false', Bool.not_eq_true, Bool.not_eq_false] at *
       exact (congrArg DV.bool (risingI_iff.2 fun j hj => hk j (by dsimp only at hj; omega))).symm)
end Go.Proofs.YtbeafnkcimfeeaaGreatDoor.AM.TT
-- tt
namespace Go.Proofs.YtbeafnkcimfeeaaGreatDoor.AM.TT
set_option linter.unusedVariables false
set_option linter.unusedSimpArgs false
open Go Go.Proofs.YtbeafnkcimfeeaaGreatDoor.AM Go.Proofs
set_option linter.unusedSimpArgs false
set_option linter.unusedVariables false
set_option maxHeartbeats 2000000
attribute [local irreducible] RunL AWp StepK OpK thenQ blockQ noGotoQ fnQ fnEQ
def encRI (x : Except Int IView) : DV := match x with | .ok w => .tup [.agg (ei w), I 0] | .error c => .tup [.agg (ei noIView), I c]
def cellsI (v : IView) (c : Option Key) : List PV := [.dat (.str v.low), .dat (.str v.high), .dat (.bool v.unb), .dat (I v.right), (match c with | none => .dat (.lst 2 (ees v.ents)) | some t => .acc t 2 (ees v.ents)), .dat (.bool v.held), .dat (I v.hold.page), .dat (I v.hold.left), .dat (.str v.hold.key)]
theorem ei_mk {α : Type} {P : α → Nat → Prop} (y : α) (e' : Nat) (h : P y e') : ∃ y e', P y e' := ⟨y, e', h⟩
theorem li_int {env : List (Nat × PV)} {n : Nat} {k : IntKind} {a b : Int} (h : lookE env n = some (.dat (.int k a))) (e : a = b) : lookE env n = some (.dat (.int k b)) := by rw [h, e]
theorem cells_put (lo hi : Str) (un : Bool) (ri : Int) (l : List Entry) (n : Nat) (ke : Str) (pa : Int) (g : Bool) (ho : Hold) (t : Key) : [PV.dat (.str lo), .dat (.str hi), .dat (.bool un), .dat (I ri), .acc t 2 ([] ++ List.map ee (l.take n) ++ [[.str ke, I pa]] ++ List.map ee (l.drop n)), .dat (.bool g), .dat (I ho.page), .dat (I ho.left), .dat (.str ho.key)] = cellsI ⟨lo, hi, un, ri, l.take n ++ ⟨ke, pa⟩ :: l.drop n, g, ho⟩ (some t) := by simp [cellsI, ees, ee]
theorem cells_cut (lo hi : Str) (un : Bool) (ri : Int) (l : List Entry) (n : Nat) (t : Key) : [PV.dat (.str lo), .dat (.str hi), .dat (.bool un), .dat (I ri), .acc t 2 ([] ++ List.map ee (l.take n) ++ List.map ee (l.drop ((n : Int) + 1).toNat)), .dat (.bool false), .dat (I 0), .dat (I 0), .dat (.str [])] = cellsI ⟨lo, hi, un, ri, l.take n ++ l.drop (n + 1), false, noHold⟩ (some t) := by
  have : ((n : Int) + 1).toNat = n + 1 := by omega
  simp [cellsI, ees, noHold, this]
theorem mxi (p : Nat) : (if (p : Int) < 0 then (0 : Int) else p) = p := by split <;> omega
theorem mx1i (p : Nat) : (if (p : Int) - 1 < 0 then (0 : Int) else (p : Int) - 1) = ((p - 1 : Nat) : Int) := by split <;> omega
theorem mneg : (if (-1 : Int) < 0 then (0 : Int) else -1) = 0 := by decide
theorem pos_eq (p : Nat) : decide ((0 : Int) < p) = !decide (p = 0) := by rw [Bool.eq_iff_iff]; simp; omega
theorem li_bool {env : List (Nat × PV)} {n : Nat} {b b' : Bool} (h : lookE env n = some (.dat (.bool b))) (e : b = b') : lookE env n = some (.dat (.bool b')) := by rw [h, e]
theorem li_mem {mem : List (Key × List PV)} {k : Key} {cs cs' : List PV} (h : lookM mem k = some cs) (e : cs = cs') : lookM mem k = some cs' := by rw [h, e]
abbrev zeroIR : List PV := [.dat (.str []), .dat (.str []), .dat (.bool false), .dat (I 0), .dat (.nil 2), .dat (.bool false), .dat (I 0), .dat (I 0), .dat (.str [])]
theorem enter77 : EnterOk Tryz.prog 77 := EnterOk_of (fn := Tryz.f77) (by kernel_rfl) (by kernel_rfl) (by kernel_rfl)
theorem f77_calls (l : List Rec) (hs : szI l l.length ≤ 900000) : CallsD Tryz.prog 77 [.lst 15 (ecs l)] (encRI (foldI l)) := by
  refine CallsD_bd enter77 fun hbd => CallsD_of good mixed (fn := Tryz.f77) (by kernel_rfl) rfl enter77 (Nat.le_of_ble_eq_true rfl) ?_
  show AWp _ _ _ _ _ ⟨[(0, _)], [], [], 0⟩
  have hln := szI_len l
  repeat' (first | (refine is_cons ?_; first | (refine is_g ?_; first | refine rl_on rfl rfl ?_ | refine rl_off rfl rfl ?_ | refine rl_offU rfl ?_ | (refine rl_case rfl ?_ ?_ <;> (intro h; first | subst h | (simp only [Bool.not_eq_true', Bool.not_eq_false'] at h; subst h)))) | (refine is_fa ?_; first | refine fa_valn rfl (by (try simp only [nfA, T_md, Nat.reduceAdd]) <;> apply rfl) ?_) | (refine is_ld ?_; first | refine ld_load rfl (by first | refine lookM_hd | exact lookM_sl rfl lookM_hd | (repeat (first | refine lookM_hd | refine lookM_sl rfl ?_))) rfl (by (try simp only [nfA, T_md, Nat.reduceAdd]) <;> apply rfl) ?_ | refine ld_valn rfl (by (try simp only [nfA, T_md, Nat.reduceAdd]) <;> apply rfl) ?_) | (refine is_mv ?_; first | refine mv_val rfl ?_) | (refine is_bo ?_; first | refine rl_binT rfl ?_ | refine rl_binF rfl ?_ | (refine rl_binB rfl ?_; intro _ _) | (refine rl_half rfl (by (try simp only [maxLen_eq, List.length_map, decide_eq_true_eq, decide_eq_false_iff_not] at *); omega) ?_) | (refine rl_binW rfl (by (try simp only [maxLen_eq, List.length_map, decide_eq_true_eq, decide_eq_false_iff_not] at *); omega) ?_) | refine bo_val rfl ?_) | (refine is_as ?_; first | refine as_val rfl ?_ | refine as_new rfl rfl ?_) | (refine is_st ?_; first | refine st_store rfl (by first | refine lookM_hd | exact lookM_sl rfl lookM_hd | (repeat (first | refine lookM_hd | refine lookM_sl rfl ?_))) rfl (by (try simp only [nfA, T_md, Nat.reduceAdd]) <;> apply rfl) ?_) | (refine is_pk ?_; first | refine pk_twoT rfl rfl ?_ | refine pk_twoF rfl rfl ?_ | (refine pk_case rfl ?_ ?_ <;> (intro h; subst h))) | (refine is_bd ?_; first | refine bd_valn rfl (by (try simp only [nfA, T_md, Nat.reduceAdd]) <;> apply rfl) ?_) | (refine is_ia ?_; first | (refine ia_elt rfl ?_ (fun _ _ => ?_))) | (refine is_sl ?_; first | refine sl_need rfl (by (try simp only [nfA, T_md, Nat.reduceAdd]) <;> apply rfl) ?_ ?_) | (refine is_al ?_; first | refine al_alloc rfl (by (try simp only [nfA, T_md, Nat.reduceAdd]) <;> apply rfl) ?_) | (refine is_bs ?_; first | refine bs_new rfl (by (try simp only [nfA, T_md, Nat.reduceAdd]) <;> apply rfl) ?_) | (refine is_uo ?_; first | refine uo_val rfl ?_) | (refine is_bi ?_; first | refine bi_val rfl ?_ | refine bi_own rfl (by first | refine lookB_hd | exact lookB_tt lookB_hd | (repeat (first | refine lookB_hd | refine lookB_sl rfl ?_))) ?_ ?_ | refine bi_needN rfl ?_ ?_ | (refine bi_gated rfl (by (try simp only [nfA, T_md, Nat.reduceAdd]) <;> apply rfl) ?_; intro _))) | refine rl_nil ?_ | (refine is_aw ?_; first | refine aw_seq ?_ | refine aw_scope ?_ | refine aw_reg rfl ?_ | refine aw_draw rfl ?_ | refine aw_condT rfl ?_ | refine aw_condF rfl ?_ | (refine aw_condN rfl ?_ ?_ <;> (intro h; subst h)) | (refine aw_cond rfl ?_ ?_ <;> (intro h; subst h)) | refine aw_skip ?_ | refine aw_ret ?_ | refine aw_exit ?_ | refine aw_block ?_ | refine aw_label ?_) | refine tq_n ?_ | refine ng_n ?_ | refine ng_r ?_ | refine ng_x ?_ | refine ⟨(rfl : regOk _ _ = true), ?_⟩ | refine tq_r ?_ | refine tq_x ?_ | refine bq_n ?_ | refine bq_x ?_ | refine bq_r ?_ | refine bq_o rfl ?_ | refine fq_r rfl ?_ | refine fq_n rfl ?_)
  refine aw_loopX (fun (n : Nat) e => ⟨[(4, .dat (I n)), (0, .dat (.lst 15 (ecs l))), (2, .ptr (2, 0, 1) 0)], [((2, 0, 1), zeroIR)], [], e⟩) (fun n => n ≤ l.length ∧ ∀ j, j < n → kindI (l.getD j default) = true) (fun n => l.length - n) 0 _ (le_of ⟨rfl, rfl, rfl, trivial⟩ ⟨rfl, trivial⟩ trivial (Nat.le_refl _)) (by simp) ?_
  rintro n e ⟨hn, hk⟩
  repeat' (first | (refine is_cons ?_; first | (refine is_g ?_; first | refine rl_on rfl rfl ?_ | refine rl_off rfl rfl ?_ | refine rl_offU rfl ?_ | (refine rl_case rfl ?_ ?_ <;> (intro h; first | subst h | (simp only [Bool.not_eq_true', Bool.not_eq_false'] at h; subst h)))) | (refine is_fa ?_; first | refine fa_valn rfl (by (try simp only [nfA, T_md, Nat.reduceAdd]) <;> apply rfl) ?_) | (refine is_ld ?_; first | refine ld_load rfl (by first | refine lookM_hd | exact lookM_sl rfl lookM_hd | (repeat (first | refine lookM_hd | refine lookM_sl rfl ?_))) rfl (by (try simp only [nfA, T_md, Nat.reduceAdd]) <;> apply rfl) ?_ | refine ld_valn rfl (by (try simp only [nfA, T_md, Nat.reduceAdd]) <;> apply rfl) ?_) | (refine is_mv ?_; first | refine mv_val rfl ?_) | (refine is_bo ?_; first | refine rl_binT rfl ?_ | refine rl_binF rfl ?_ | (refine rl_binB rfl ?_; intro _ _) | (refine rl_half rfl (by (try simp only [maxLen_eq, List.length_map, decide_eq_true_eq, decide_eq_false_iff_not] at *); omega) ?_) | (refine rl_binW rfl (by (try simp only [maxLen_eq, List.length_map, decide_eq_true_eq, decide_eq_false_iff_not] at *); omega) ?_) | refine bo_val rfl ?_) | (refine is_as ?_; first | refine as_val rfl ?_ | refine as_new rfl rfl ?_) | (refine is_st ?_; first | refine st_store rfl (by first | refine lookM_hd | exact lookM_sl rfl lookM_hd | (repeat (first | refine lookM_hd | refine lookM_sl rfl ?_))) rfl (by (try simp only [nfA, T_md, Nat.reduceAdd]) <;> apply rfl) ?_) | (refine is_pk ?_; first | refine pk_twoT rfl rfl ?_ | refine pk_twoF rfl rfl ?_ | (refine pk_case rfl ?_ ?_ <;> (intro h; subst h))) | (refine is_bd ?_; first | refine bd_valn rfl (by (try simp only [nfA, T_md, Nat.reduceAdd]) <;> apply rfl) ?_) | (refine is_ia ?_; first | (refine ia_elt rfl ?_ (fun _ _ => ?_))) | (refine is_sl ?_; first | refine sl_need rfl (by (try simp only [nfA, T_md, Nat.reduceAdd]) <;> apply rfl) ?_ ?_) | (refine is_al ?_; first | refine al_alloc rfl (by (try simp only [nfA, T_md, Nat.reduceAdd]) <;> apply rfl) ?_) | (refine is_bs ?_; first | refine bs_new rfl (by (try simp only [nfA, T_md, Nat.reduceAdd]) <;> apply rfl) ?_) | (refine is_uo ?_; first | refine uo_val rfl ?_) | (refine is_bi ?_; first | refine bi_val rfl ?_ | refine bi_own rfl (by first | refine lookB_hd | exact lookB_tt lookB_hd | (repeat (first | refine lookB_hd | refine lookB_sl rfl ?_))) ?_ ?_ | refine bi_needN rfl ?_ ?_ | (refine bi_gated rfl (by (try simp only [nfA, T_md, Nat.reduceAdd]) <;> apply rfl) ?_; intro _)) | (refine is_cf 128 ?_; first | (refine cfB (f128_calls (baseI _)) rfl ⟨.inl rfl, trivial⟩ ?_; intro _ _) | (refine cfB (f128_calls (baseI _)) rfl ⟨(by first | exact .inl rfl | exact .inr (.inl rfl) | exact .inr (.inr ⟨_, _, rfl, rfl⟩)), trivial⟩ ?_; intro _ _))) | refine rl_nil ?_ | (refine is_aw ?_; first | refine aw_seq ?_ | refine aw_scope ?_ | refine aw_reg rfl ?_ | refine aw_draw rfl ?_ | refine aw_condT rfl ?_ | refine aw_condF rfl ?_ | (refine aw_condN rfl ?_ ?_ <;> (intro h; subst h)) | (refine aw_cond rfl ?_ ?_ <;> (intro h; subst h)) | refine aw_skip ?_ | refine aw_ret ?_ | refine aw_exit ?_ | refine aw_block ?_ | refine aw_label ?_) | refine tq_n ?_ | refine ng_n ?_ | refine ng_r ?_ | refine ng_x ?_ | refine ⟨(rfl : regOk _ _ = true), ?_⟩ | refine tq_r ?_ | refine tq_x ?_ | refine bq_n ?_ | refine bq_x ?_ | refine bq_r ?_ | refine bq_o rfl ?_ | refine fq_r rfl ?_ | refine fq_n rfl ?_)
  all_goals try (simp only [maxLen_eq, List.length_map, decide_eq_true_eq, decide_eq_false_iff_not, Int.toNat_natCast, Bool.not_eq_true', Bool.not_eq_false', Bool.not_eq_true, Bool.not_eq_false] at *; omega)
  · rename_i hl x hx hc
    simp only [maxLen_eq, List.length_map, decide_eq_true_eq, decide_eq_false_iff_not, Int.toNat_natCast, Bool.not_eq_true', Bool.not_eq_false', Bool.not_eq_true, Bool.not_eq_false] at *
    rw [foldI_kind hx (by simp [kindI]; omega)]; rfl
  · rename_i hl y hy hc x hx hd
    simp only [maxLen_eq, List.length_map, decide_eq_true_eq, decide_eq_false_iff_not, Int.toNat_natCast, Bool.not_eq_true', Bool.not_eq_false', Bool.not_eq_true, Bool.not_eq_false] at *
    rw [foldI_kind hx (by simp [kindI]; omega)]; rfl
  · rename_i hl y hy hc x hx hd
    simp only [maxLen_eq, List.length_map, decide_eq_true_eq, decide_eq_false_iff_not, Int.toNat_natCast, Bool.not_eq_true', Bool.not_eq_false', Bool.not_eq_true, Bool.not_eq_false] at *
    rw [hx] at hy; cases hy
    refine ⟨n + 1, _, by omega, le_of ⟨rfl, rfl, rfl, trivial⟩ ⟨rfl, trivial⟩ trivial (Nat.le_refl _), by omega, fun j hj => ?_⟩
    rcases Nat.lt_or_ge j n with q | q
    · exact hk j q
    · obtain rfl : j = n := by omega
      have hx' : l.getD j default = y := by simp [List.getD, hx]
      rw [hx']
      simp [kindI]; omega
  · rename_i hl _ hc
    simp only [maxLen_eq, List.length_map, decide_eq_true_eq, decide_eq_false_iff_not, Int.toNat_natCast, Bool.not_eq_true', Bool.not_eq_false', Bool.not_eq_true, Bool.not_eq_false] at *
    have : foldI l = .error 10 := by
      have : l = [] := List.length_eq_zero_iff.1 (by omega)
      subst this; rfl
    rw [this]; rfl
  rotate_left
  · rename_i hl _ hc _ b hb h7 _
    simp only [maxLen_eq, List.length_map, decide_eq_true_eq, decide_eq_false_iff_not, Int.toNat_natCast, Bool.not_eq_true', Bool.not_eq_false', Bool.not_eq_true, Bool.not_eq_false] at *
    have hall : ∀ j, j < l.length → kindI (l.getD j default) = true := fun j hj => hk j (by omega)
    have e1 : ((l.length : Int) - 1).toNat = l.length - 1 := by omega
    rw [e1] at hb
    have hf : foldI l = .error 10 := by rw [foldI_all hall hb, if_neg h7]
    rw [hf]
    refine aw_loopX (fun (n : Nat) e => ⟨[(8, .dat (I ((l.length : Int) - 2))), (7, .dat (.bool false)), (0, .dat (.lst 15 (ecs l))), (2, .ptr (2, 0, 1) 0)], [((2, 0, 1), zeroIR)], [], e⟩) (fun n => True) (fun n => n) 0 _ (le_of ⟨rfl, rfl, rfl, rfl, trivial⟩ ⟨li_mem (by repeat (first | refine lookM_hd | refine lookM_sl rfl ?_)) rfl, trivial⟩ trivial (Nat.le_refl _)) trivial ?_
    rintro n e -
    repeat' (first | (refine is_cons ?_; first | (refine is_g ?_; first | refine rl_on rfl rfl ?_ | refine rl_off rfl rfl ?_ | refine rl_offU rfl ?_ | (refine rl_case rfl ?_ ?_ <;> (intro h; first | subst h | (simp only [Bool.not_eq_true', Bool.not_eq_false'] at h; subst h)))) | (refine is_fa ?_; first | refine fa_valn rfl (by (try simp only [nfA, T_md, Nat.reduceAdd]) <;> apply rfl) ?_) | (refine is_ld ?_; first | refine ld_load rfl (by first | refine lookM_hd | exact lookM_sl rfl lookM_hd | (repeat (first | refine lookM_hd | refine lookM_sl rfl ?_))) rfl (by (try simp only [nfA, T_md, Nat.reduceAdd]) <;> apply rfl) ?_ | refine ld_valn rfl (by (try simp only [nfA, T_md, Nat.reduceAdd]) <;> apply rfl) ?_) | (refine is_mv ?_; first | refine mv_val rfl ?_) | (refine is_bo ?_; first | refine rl_binT rfl ?_ | refine rl_binF rfl ?_ | (refine rl_binB rfl ?_; intro _ _) | (refine rl_half rfl (by (try simp only [maxLen_eq, List.length_map, decide_eq_true_eq, decide_eq_false_iff_not] at *); omega) ?_) | (refine rl_binW rfl (by (try simp only [maxLen_eq, List.length_map, decide_eq_true_eq, decide_eq_false_iff_not] at *); omega) ?_) | refine bo_val rfl ?_) | (refine is_as ?_; first | refine as_val rfl ?_ | refine as_new rfl rfl ?_) | (refine is_st ?_; first | refine st_store rfl (by first | refine lookM_hd | exact lookM_sl rfl lookM_hd | (repeat (first | refine lookM_hd | refine lookM_sl rfl ?_))) rfl (by (try simp only [nfA, T_md, Nat.reduceAdd]) <;> apply rfl) ?_) | (refine is_pk ?_; first | refine pk_twoT rfl rfl ?_ | refine pk_twoF rfl rfl ?_ | (refine pk_case rfl ?_ ?_ <;> (intro h; subst h))) | (refine is_bd ?_; first | refine bd_valn rfl (by (try simp only [nfA, T_md, Nat.reduceAdd]) <;> apply rfl) ?_) | (refine is_ia ?_; first | (refine ia_elt rfl ?_ (fun _ _ => ?_))) | (refine is_sl ?_; first | refine sl_need rfl (by (try simp only [nfA, T_md, Nat.reduceAdd]) <;> apply rfl) ?_ ?_) | (refine is_al ?_; first | refine al_alloc rfl (by (try simp only [nfA, T_md, Nat.reduceAdd]) <;> apply rfl) ?_) | (refine is_bs ?_; first | refine bs_new rfl (by (try simp only [nfA, T_md, Nat.reduceAdd]) <;> apply rfl) ?_) | (refine is_uo ?_; first | refine uo_val rfl ?_) | (refine is_bi ?_; first | refine bi_val rfl ?_ | refine bi_own rfl (by first | refine lookB_hd | exact lookB_tt lookB_hd | (repeat (first | refine lookB_hd | refine lookB_sl rfl ?_))) ?_ ?_ | refine bi_needN rfl ?_ ?_ | (refine bi_gated rfl (by (try simp only [nfA, T_md, Nat.reduceAdd]) <;> apply rfl) ?_; intro _))) | refine rl_nil ?_ | (refine is_aw ?_; first | refine aw_seq ?_ | refine aw_scope ?_ | refine aw_reg rfl ?_ | refine aw_draw rfl ?_ | refine aw_condT rfl ?_ | refine aw_condF rfl ?_ | (refine aw_condN rfl ?_ ?_ <;> (intro h; subst h)) | (refine aw_cond rfl ?_ ?_ <;> (intro h; subst h)) | refine aw_skip ?_ | refine aw_ret ?_ | refine aw_exit ?_ | refine aw_block ?_ | refine aw_label ?_) | refine tq_n ?_ | refine ng_n ?_ | refine ng_r ?_ | refine ng_x ?_ | refine ⟨(rfl : regOk _ _ = true), ?_⟩ | refine tq_r ?_ | refine tq_x ?_ | refine bq_n ?_ | refine bq_x ?_ | refine bq_r ?_ | refine bq_o rfl ?_ | refine fq_r rfl ?_ | refine fq_n rfl ?_)
    all_goals rfl
  rename_i hl _ hc _ b hb h7 ok hok _
  simp only [maxLen_eq, List.length_map, decide_eq_true_eq, decide_eq_false_iff_not, Int.toNat_natCast, Bool.not_eq_true', Bool.not_eq_false', Bool.not_eq_true, Bool.not_eq_false] at *
  have hall : ∀ j, j < l.length → kindI (l.getD j default) = true := fun j hj => hk j (by omega)
  have e1 : ((l.length : Int) - 1).toNat = l.length - 1 := by omega
  rw [e1] at hb
  have hbase := invI_base (ok := ok) hall hb (by simp [h7, hok]) hs
  clear hk hok h7
  refine aw_loopX (fun (x : (Nat × IView × Bool) × Option Key) e' => ⟨[(8, .dat (I ((x.1.1 : Int) - 1))), (6, .ptr (6, 0, e + 1 + 1 + 1 + 1) 0), (7, .dat (.bool x.1.2.2)), (0, .dat (.lst 15 (ecs l))), (2, .ptr (2, 0, 1) 0)], [((6, 0, e + 1 + 1 + 1 + 1), cellsI x.1.2.1 x.2), ((2, 0, 1), zeroIR)], [], e'⟩) (fun x => InvI l x.1) (fun x => x.1.1) ((l.length - 1, baseI b, ok), none) _
    (le_of ⟨?_, rfl, rfl, rfl, rfl, trivial⟩ ⟨lookM_hd, li_mem (by repeat (first | refine lookM_hd | refine lookM_sl rfl ?_)) rfl, trivial⟩ trivial (Nat.le_refl _)) hbase ?_
  · have e3 : ((l.length - 1 : Nat) : Int) - 1 = (l.length : Int) - 2 := by omega
    dsimp only
    rw [e3]; rfl
  clear hbase hb
  rintro ⟨⟨m, v, ok⟩, c⟩ e2 hI
  dsimp only at hI ⊢
  cases ok with
  | false =>
    repeat' (first | (refine is_cons ?_; first | (refine is_g ?_; first | refine rl_on rfl rfl ?_ | refine rl_off rfl rfl ?_ | refine rl_offU rfl ?_ | (refine rl_case rfl ?_ ?_ <;> (intro h; first | subst h | (simp only [Bool.not_eq_true', Bool.not_eq_false'] at h; subst h)))) | (refine is_fa ?_; first | refine fa_valn rfl (by (try simp only [nfA, T_md, Nat.reduceAdd]) <;> apply rfl) ?_) | (refine is_ld ?_; first | refine ld_load rfl (by first | refine lookM_hd | exact lookM_sl rfl lookM_hd | (repeat (first | refine lookM_hd | refine lookM_sl rfl ?_))) rfl (by (try simp only [nfA, T_md, Nat.reduceAdd]) <;> apply rfl) ?_ | refine ld_valn rfl (by (try simp only [nfA, T_md, Nat.reduceAdd]) <;> apply rfl) ?_) | (refine is_mv ?_; first | refine mv_val rfl ?_) | (refine is_bo ?_; first | refine rl_binT rfl ?_ | refine rl_binF rfl ?_ | (refine rl_binB rfl ?_; intro _ _) | (refine rl_half rfl (by (try simp only [maxLen_eq, List.length_map, decide_eq_true_eq, decide_eq_false_iff_not] at *); omega) ?_) | (refine rl_binW rfl (by (try simp only [maxLen_eq, List.length_map, decide_eq_true_eq, decide_eq_false_iff_not] at *); omega) ?_) | refine bo_val rfl ?_) | (refine is_as ?_; first | refine as_val rfl ?_ | refine as_new rfl rfl ?_) | (refine is_st ?_; first | refine st_store rfl (by first | refine lookM_hd | exact lookM_sl rfl lookM_hd | (repeat (first | refine lookM_hd | refine lookM_sl rfl ?_))) rfl (by (try simp only [nfA, T_md, Nat.reduceAdd]) <;> apply rfl) ?_) | (refine is_pk ?_; first | refine pk_twoT rfl rfl ?_ | refine pk_twoF rfl rfl ?_ | (refine pk_case rfl ?_ ?_ <;> (intro h; subst h))) | (refine is_bd ?_; first | refine bd_valn rfl (by (try simp only [nfA, T_md, Nat.reduceAdd]) <;> apply rfl) ?_) | (refine is_ia ?_; first | (refine ia_elt rfl ?_ (fun _ _ => ?_))) | (refine is_sl ?_; first | refine sl_need rfl (by (try simp only [nfA, T_md, Nat.reduceAdd]) <;> apply rfl) ?_ ?_) | (refine is_al ?_; first | refine al_alloc rfl (by (try simp only [nfA, T_md, Nat.reduceAdd]) <;> apply rfl) ?_) | (refine is_bs ?_; first | refine bs_new rfl (by (try simp only [nfA, T_md, Nat.reduceAdd]) <;> apply rfl) ?_) | (refine is_uo ?_; first | refine uo_val rfl ?_) | (refine is_bi ?_; first | refine bi_val rfl ?_ | refine bi_own rfl (by first | refine lookB_hd | exact lookB_tt lookB_hd | (repeat (first | refine lookB_hd | refine lookB_sl rfl ?_))) ?_ ?_ | refine bi_needN rfl ?_ ?_ | (refine bi_gated rfl (by (try simp only [nfA, T_md, Nat.reduceAdd]) <;> apply rfl) ?_; intro _))) | refine rl_nil ?_ | (refine is_aw ?_; first | refine aw_seq ?_ | refine aw_scope ?_ | refine aw_reg rfl ?_ | refine aw_draw rfl ?_ | refine aw_condT rfl ?_ | refine aw_condF rfl ?_ | (refine aw_condN rfl ?_ ?_ <;> (intro h; subst h)) | (refine aw_cond rfl ?_ ?_ <;> (intro h; subst h)) | refine aw_skip ?_ | refine aw_ret ?_ | refine aw_exit ?_ | refine aw_block ?_ | refine aw_label ?_) | refine tq_n ?_ | refine ng_n ?_ | refine ng_r ?_ | refine ng_x ?_ | refine ⟨(rfl : regOk _ _ = true), ?_⟩ | refine tq_r ?_ | refine tq_x ?_ | refine bq_n ?_ | refine bq_x ?_ | refine bq_r ?_ | refine bq_o rfl ?_ | refine fq_r rfl ?_ | refine fq_n rfl ?_)
    all_goals (rw [hI.2.2 rfl]; rfl)
  | true =>
    cases m with
    | zero =>
      have hfin : foldI l = .ok v := (hI.2.1 rfl).2.2.2
      cases c
      all_goals dsimp only [cellsI]
      all_goals
        repeat' (first | (refine is_cons ?_; first | (refine is_g ?_; first | refine rl_on rfl rfl ?_ | refine rl_off rfl rfl ?_ | refine rl_offU rfl ?_ | (refine rl_case rfl ?_ ?_ <;> (intro h; first | subst h | (simp only [Bool.not_eq_true', Bool.not_eq_false'] at h; subst h)))) | (refine is_fa ?_; first | refine fa_valn rfl (by (try simp only [nfA, T_md, Nat.reduceAdd]) <;> apply rfl) ?_) | (refine is_ld ?_; first | refine ld_load rfl (by first | refine lookM_hd | exact lookM_sl rfl lookM_hd | (repeat (first | refine lookM_hd | refine lookM_sl rfl ?_))) rfl (by (try simp only [nfA, T_md, Nat.reduceAdd]) <;> apply rfl) ?_ | refine ld_valn rfl (by (try simp only [nfA, T_md, Nat.reduceAdd]) <;> apply rfl) ?_) | (refine is_mv ?_; first | refine mv_val rfl ?_) | (refine is_bo ?_; first | refine rl_binT rfl ?_ | refine rl_binF rfl ?_ | (refine rl_binB rfl ?_; intro _ _) | (refine rl_half rfl (by (try simp only [maxLen_eq, List.length_map, decide_eq_true_eq, decide_eq_false_iff_not] at *); omega) ?_) | (refine rl_binW rfl (by (try simp only [maxLen_eq, List.length_map, decide_eq_true_eq, decide_eq_false_iff_not] at *); omega) ?_) | refine bo_val rfl ?_) | (refine is_as ?_; first | refine as_val rfl ?_ | refine as_new rfl rfl ?_) | (refine is_st ?_; first | refine st_store rfl (by first | refine lookM_hd | exact lookM_sl rfl lookM_hd | (repeat (first | refine lookM_hd | refine lookM_sl rfl ?_))) rfl (by (try simp only [nfA, T_md, Nat.reduceAdd]) <;> apply rfl) ?_) | (refine is_pk ?_; first | refine pk_twoT rfl rfl ?_ | refine pk_twoF rfl rfl ?_ | (refine pk_case rfl ?_ ?_ <;> (intro h; subst h))) | (refine is_bd ?_; first | refine bd_valn rfl (by (try simp only [nfA, T_md, Nat.reduceAdd]) <;> apply rfl) ?_) | (refine is_ia ?_; first | (refine ia_elt rfl ?_ (fun _ _ => ?_))) | (refine is_sl ?_; first | refine sl_need rfl (by (try simp only [nfA, T_md, Nat.reduceAdd]) <;> apply rfl) ?_ ?_) | (refine is_al ?_; first | refine al_alloc rfl (by (try simp only [nfA, T_md, Nat.reduceAdd]) <;> apply rfl) ?_) | (refine is_bs ?_; first | refine bs_new rfl (by (try simp only [nfA, T_md, Nat.reduceAdd]) <;> apply rfl) ?_) | (refine is_uo ?_; first | refine uo_val rfl ?_) | (refine is_bi ?_; first | refine bi_val rfl ?_ | refine bi_own rfl (by first | refine lookB_hd | exact lookB_tt lookB_hd | (repeat (first | refine lookB_hd | refine lookB_sl rfl ?_))) ?_ ?_ | refine bi_needN rfl ?_ ?_ | (refine bi_gated rfl (by (try simp only [nfA, T_md, Nat.reduceAdd]) <;> apply rfl) ?_; intro _))) | refine rl_nil ?_ | (refine is_aw ?_; first | refine aw_seq ?_ | refine aw_scope ?_ | refine aw_reg rfl ?_ | refine aw_draw rfl ?_ | refine aw_condT rfl ?_ | refine aw_condF rfl ?_ | (refine aw_condN rfl ?_ ?_ <;> (intro h; subst h)) | (refine aw_cond rfl ?_ ?_ <;> (intro h; subst h)) | refine aw_skip ?_ | refine aw_ret ?_ | refine aw_exit ?_ | refine aw_block ?_ | refine aw_label ?_) | refine tq_n ?_ | refine ng_n ?_ | refine ng_r ?_ | refine ng_x ?_ | refine ⟨(rfl : regOk _ _ = true), ?_⟩ | refine tq_r ?_ | refine tq_x ?_ | refine bq_n ?_ | refine bq_x ?_ | refine bq_r ?_ | refine bq_o rfl ?_ | refine fq_r rfl ?_ | refine fq_n rfl ?_)
      all_goals first
        | (exfalso; simp only [maxLen_eq, List.length_map, decide_eq_true_eq, decide_eq_false_iff_not, Int.toNat_natCast, Bool.not_eq_true', Bool.not_eq_false', Bool.not_eq_true, Bool.not_eq_false] at *; omega)
        | (rw [hfin]; rfl)
    | succ k =>
      have hle : k + 1 ≤ l.length - 1 := hI.1
      obtain ⟨hup, hho, hro, _⟩ := hI.2.1 rfl
      dsimp only at hup hho hro
      have hX : l[k]? = some (l.getD k default) := by simp [List.getD, List.getElem?_eq_getElem (show k < l.length by omega)]
      have hz := szI_succ hX
      have hkin := hall k (by omega)
      generalize l.getD k default = X at hX hkin hz
      have hXk : X.kind = 7 ∨ X.kind = 8 ∨ X.kind = 9 ∨ X.kind = 10 ∨ X.kind = 11 := by
        simp only [kindI, Bool.and_eq_true, decide_eq_true_eq] at hkin
        omega
      have hS := refStepI (v := v) hX hI
      have hB := badStepI (v := v) hX hI
      have hkn : ∀ a, l[(((k + 1 : Nat) : Int) - 1).toNat]? = some a → a = X := by
        intro a ha
        have : (((k + 1 : Nat) : Int) - 1).toNat = k := by omega
        rw [this, hX] at ha
        exact (Option.some.inj ha).symm
      have hbnd : 0 ≤ (((k + 1 : Nat) : Int) - 1) ∧ (((k + 1 : Nat) : Int) - 1).toNat < l.length := by omega
      have h56 : ∀ K, CallsD Tryz.prog 129 [.agg (ei v), .str K] (I (if thereE v.ents K then (placeE v.ents K : Int) else -1)) := by
        intro K
        have := f129_calls v K
        rw [atE_up hup] at this
        exact this
      have h78 := fun K => f84_calls v K
      have h79 := fun K => f130_calls v K
      clear hI hkin hall hX
      obtain ⟨vlo, vhi, vun, vri, ven, vhe, vho⟩ := v
      obtain ⟨kd, lo, hi, un, ri, ro, en, ke, va, pa, ho, ne⟩ := X
      dsimp only at hro hz hXk hup hho h56 h79
      have hne1 : ∀ {a b : Int}, a < b → a ≠ b := fun h q => by omega
      cases vhe
      all_goals rcases hXk with q | q | q | q | q
      all_goals subst q
      all_goals first
        | (replace hS := hS (.inl ⟨rfl, .inl rfl⟩); clear hB; have g56 := h56 ke; cases ht : thereE ven ke <;> rw [ht] at g56 <;> simp only [if_true, Bool.false_eq_true, if_false] at g56)
        | (replace hS := hS (.inl ⟨rfl, .inr (.inl rfl)⟩); clear hB; have g56 := h56 ke; cases ht : thereE ven ke <;> rw [ht] at g56 <;> simp only [if_true, Bool.false_eq_true, if_false] at g56)
        | (replace hS := hS (.inl ⟨rfl, .inr (.inr rfl)⟩); clear hB; have g56 := h56 ho.key; cases ht : thereE ven ho.key <;> rw [ht] at g56 <;> simp only [if_true, Bool.false_eq_true, if_false] at g56)
        | (replace hS := hS (.inr ⟨rfl, rfl⟩); clear hB; have g56 := h56 vho.key; have ht := hho rfl; dsimp only at ht; rw [ht] at g56; simp only [if_true] at g56)
        | (replace hB := hB (.inl rfl); clear hS; have g56 := h56 ke)
        | (replace hB := hB (.inr (.inr ⟨rfl, rfl⟩)); clear hS; have g56 := h56 ke)
        | (replace hB := hB (.inr (.inl ⟨rfl, hne1 (by simp)⟩)); clear hS; have g56 := h56 ke)
      all_goals clear h56
      all_goals have hp1 := placeE_le ven ke
      all_goals have hp2 := placeE_le ven ho.key
      all_goals have hp3 := placeE_le ven vho.key
      all_goals cases c
      all_goals dsimp only [cellsI]
      all_goals
        repeat' (first | (refine is_cons ?_; first | (refine is_g ?_; first | refine rl_on rfl rfl ?_ | refine rl_off rfl rfl ?_ | refine rl_offU rfl ?_ | (refine rl_case rfl ?_ ?_ <;> (intro h; first | subst h | (simp only [Bool.not_eq_true', Bool.not_eq_false'] at h; subst h)))) | (refine is_ia ?_; refine ia_elt rfl hbnd (fun a ha => ?_); obtain rfl := hkn a ha) | (refine is_fa ?_; first | refine fa_valn rfl (by (try simp only [nfA, T_md, Nat.reduceAdd]) <;> apply rfl) ?_) | (refine is_ld ?_; first | refine ld_load rfl (by first | refine lookM_hd | exact lookM_sl rfl lookM_hd | (repeat (first | refine lookM_hd | refine lookM_sl rfl ?_))) rfl (by (try simp only [nfA, T_md, Nat.reduceAdd]) <;> apply rfl) ?_ | refine ld_valn rfl (by (try simp only [nfA, T_md, Nat.reduceAdd]) <;> apply rfl) ?_) | (refine is_mv ?_; first | refine mv_val rfl ?_) | (refine is_bo ?_; first | refine rl_binT rfl ?_ | refine rl_binF rfl ?_ | (refine rl_binB rfl ?_; intro _ _) | (refine rl_half rfl (by (try simp only [maxLen_eq, List.length_map, decide_eq_true_eq, decide_eq_false_iff_not] at *); omega) ?_) | (refine rl_binW rfl (by (try simp only [maxLen_eq, List.length_map, decide_eq_true_eq, decide_eq_false_iff_not] at *); omega) ?_) | refine bo_val rfl ?_) | (refine is_as ?_; first | refine as_val rfl ?_ | refine as_new rfl rfl ?_) | (refine is_st ?_; first | refine st_store rfl (by first | refine lookM_hd | exact lookM_sl rfl lookM_hd | (repeat (first | refine lookM_hd | refine lookM_sl rfl ?_))) rfl (by (try simp only [nfA, T_md, Nat.reduceAdd]) <;> apply rfl) ?_) | (refine is_pk ?_; first | refine pk_twoT rfl rfl ?_ | refine pk_twoF rfl rfl ?_ | (refine pk_case rfl ?_ ?_ <;> (intro h; subst h))) | (refine is_bd ?_; first | refine bd_valn rfl (by (try simp only [nfA, T_md, Nat.reduceAdd]) <;> apply rfl) ?_) | (refine is_ia ?_; first | (refine ia_elt rfl ?_ (fun _ _ => ?_))) | (refine is_sl ?_; first | refine sl_need rfl (by (try simp only [nfA, T_md, Nat.reduceAdd]) <;> apply rfl) ?_ ?_) | (refine is_al ?_; first | refine al_alloc rfl (by (try simp only [nfA, T_md, Nat.reduceAdd]) <;> apply rfl) ?_) | (refine is_bs ?_; first | refine bs_new rfl (by (try simp only [nfA, T_md, Nat.reduceAdd]) <;> apply rfl) ?_) | (refine is_uo ?_; first | refine uo_val rfl ?_) | (refine is_bi ?_; first | refine bi_val rfl ?_ | refine bi_own rfl (by first | refine lookB_hd | exact lookB_tt lookB_hd | (repeat (first | refine lookB_hd | refine lookB_sl rfl ?_))) ?_ ?_ | refine bi_needN rfl ?_ ?_ | (refine bi_gated rfl (by (try simp only [nfA, T_md, Nat.reduceAdd]) <;> apply rfl) ?_; intro _)) | (refine is_cf 129 ?_; refine cf g56 rfl ⟨(by first | exact .inl rfl | exact .inr (.inl rfl) | exact .inr (.inr ⟨_, _, rfl, rfl⟩)), .inl rfl, trivial⟩ ?_) | (refine is_cf 84 ?_; refine cfB (h78 _) rfl ⟨.inl rfl, .inl rfl, trivial⟩ ?_; intro _ _) | (refine is_cf 130 ?_; refine cf (h79 _) rfl ⟨.inl rfl, .inl rfl, trivial⟩ ?_)) | refine rl_nil ?_ | (refine is_aw ?_; first | refine aw_seq ?_ | refine aw_scope ?_ | refine aw_reg rfl ?_ | refine aw_draw rfl ?_ | refine aw_condT rfl ?_ | refine aw_condF rfl ?_ | (refine aw_condN rfl ?_ ?_ <;> (intro h; subst h)) | (refine aw_cond rfl ?_ ?_ <;> (intro h; subst h)) | refine aw_skip ?_ | refine aw_ret ?_ | refine aw_exit ?_ | refine aw_block ?_ | refine aw_label ?_) | refine tq_n ?_ | refine ng_n ?_ | refine ng_r ?_ | refine ng_x ?_ | refine ⟨(rfl : regOk _ _ = true), ?_⟩ | refine tq_r ?_ | refine tq_x ?_ | refine bq_n ?_ | refine bq_x ?_ | refine bq_r ?_ | refine bq_o rfl ?_ | refine fq_r rfl ?_ | refine fq_n rfl ?_)
      all_goals try (rw [hB]; rfl)
      all_goals first
        | (refine ei_mk (α := (Nat × IView × Bool) × Option Key) ((k, (refI _ _).1, (refI _ _).2), none) _ ⟨by dsimp only; omega, le_of ⟨li_int rfl (by dsimp only; omega), rfl, li_bool rfl ?_, rfl, rfl, trivial⟩ ⟨li_mem lookM_hd rfl, li_mem (by repeat (first | refine lookM_hd | refine lookM_sl rfl ?_)) rfl, trivial⟩ trivial (Nat.le_refl _), hS⟩; first | rfl | (simp [refI, List.getD, *]; done))
        | (refine ei_mk (α := (Nat × IView × Bool) × Option Key) ((k, (refI _ _).1, (refI _ _).2), some _) _ ⟨by dsimp only; omega, le_of ⟨li_int rfl (by dsimp only; omega), rfl, li_bool rfl ?_, rfl, rfl, trivial⟩ ⟨li_mem lookM_hd (cells_put _ _ _ _ _ _ _ _ _ _ _), li_mem (by repeat (first | refine lookM_hd | refine lookM_sl rfl ?_)) rfl, trivial⟩ trivial (Nat.le_refl _), hS⟩; first | rfl | (simp [refI, List.getD, *]; done))
        | (refine ei_mk (α := (Nat × IView × Bool) × Option Key) ((k, (refI _ _).1, (refI _ _).2), some _) _ ⟨by dsimp only; omega, le_of ⟨li_int rfl (by dsimp only; omega), rfl, li_bool rfl ?_, rfl, rfl, trivial⟩ ⟨li_mem lookM_hd (cells_cut _ _ _ _ _ _ _), li_mem (by repeat (first | refine lookM_hd | refine lookM_sl rfl ?_)) rfl, trivial⟩ trivial (Nat.le_refl _), hS⟩; first | rfl | (simp [refI, List.getD, *]; done))
        | (refine ei_mk (α := (Nat × IView × Bool) × Option Key) ((k, (refI _ _).1, (refI _ _).2), some _) _ ⟨by dsimp only; omega, le_of ⟨li_int rfl (by dsimp only; omega), rfl, li_bool rfl ?_, rfl, rfl, trivial⟩ ⟨li_mem lookM_hd rfl, li_mem (by repeat (first | refine lookM_hd | refine lookM_sl rfl ?_)) rfl, trivial⟩ trivial (Nat.le_refl _), hS⟩; first | rfl | (simp [refI, List.getD, *]; done))
        | (have h1 := placeE_le ven ke
           have h2 := placeE_le ven vho.key
           simp only [maxLen_eq, List.length_append, List.length_map, List.length_take, List.length_drop, List.length_cons, List.length_nil]; omega)
        | (exfalso; simp only [maxLen_eq, List.length_map, decide_eq_true_eq, decide_eq_false_iff_not, Int.toNat_natCast, Bool.not_eq_true', Bool.not_eq_false', Bool.not_eq_true, Bool.not_eq_false] at *; omega)
        | (simp only [mxi, mx1i, mneg, Int.toNat_natCast, Int.toNat_zero, pos_eq] at *
           first
             | (refine ei_mk (α := (Nat × IView × Bool) × Option Key) ((k, (refI _ _).1, (refI _ _).2), some _) _ ⟨by dsimp only; omega, le_of ⟨li_int rfl (by dsimp only; omega), rfl, li_bool rfl ?_, rfl, rfl, trivial⟩ ⟨li_mem lookM_hd rfl, li_mem (by repeat (first | refine lookM_hd | refine lookM_sl rfl ?_)) rfl, trivial⟩ trivial (Nat.le_refl _), hS⟩; first | rfl | (simp [refI, List.getD, *]; done))
             | (refine ei_mk (α := (Nat × IView × Bool) × Option Key) ((k, (refI _ _).1, (refI _ _).2), none) _ ⟨by dsimp only; omega, le_of ⟨li_int rfl (by dsimp only; omega), rfl, li_bool rfl ?_, rfl, rfl, trivial⟩ ⟨li_mem lookM_hd (by simp [refI, cellsI, ees, ht]; done), li_mem (by repeat (first | refine lookM_hd | refine lookM_sl rfl ?_)) rfl, trivial⟩ trivial (Nat.le_refl _), hS⟩; first | rfl | (simp [refI, List.getD, *]; done))
             | (have h3 := placeE_lt ht
                first
                  | omega
                  | (simp only [maxLen_eq, List.length_append, List.length_map, List.length_take, List.length_drop, List.length_cons, List.length_nil]; omega))
             | (have h1 := placeE_le ven ke
                simp only [maxLen_eq, List.length_append, List.length_map, List.length_take, List.length_drop, List.length_cons, List.length_nil]; omega)
             | skip)
        | skip
end Go.Proofs.YtbeafnkcimfeeaaGreatDoor.AM.TT
-- tt
-- import Mod4
namespace Go.Proofs.YtbeafnkcimfeeaaGreatDoor.AM.TT
set_option linter.unusedVariables false
set_option linter.unusedSimpArgs false
open Go Go.Proofs.YtbeafnkcimfeeaaGreatDoor.AM Go.Proofs
set_option linter.unusedSimpArgs false
set_option linter.unusedVariables false
set_option maxHeartbeats 2000000
attribute [local irreducible] RunL AWp StepK OpK thenQ blockQ noGotoQ fnQ fnEQ
def encRP (x : Except Int Page) : DV := match x with | .ok p => .tup [.agg (epg p), I 0] | .error c => .tup [.agg (epg noPage), I c]
theorem enter28 : EnterOk Tryz.prog 28 := EnterOk_of (fn := Tryz.f28) (by kernel_rfl) (by kernel_rfl) (by kernel_rfl)
theorem f28_calls (n : Int) (h : Ref) (l : List Rec) (rf : List Ref) (hs : szL l l.length ≤ 900000) (hsI : szI l l.length ≤ 900000) : CallsD Tryz.prog 28 [I n, .agg (ef h), .lst 15 (ecs l), .lst 2 (efs rf)] (encRP (ofP n h l rf)) := by
  refine CallsD_bd enter28 fun hbd => CallsD_of good mixed (fn := Tryz.f28) (by kernel_rfl) rfl enter28 (Nat.le_of_ble_eq_true rfl) ?_
  show AWp _ _ _ _ _ ⟨[(0, _), (1, _), (2, _), (3, _)], [], [], 0⟩
  have hln := szL_len l
  have hc76 := f76_calls l hs
  have hc51 := f77_calls l hsI
  have hL : ∀ b, l[l.length - 1]? = some b → b.kind = 1 → ofP n h l rf = _ := fun b hb h1 => ofP_leaf hb h1
  have hI : (∀ b, l[l.length - 1]? = some b → b.kind ≠ 1) → ofP n h l rf = _ := fun hb => ofP_inner hb
  have cL := fun c => foldL_code (l := l) (c := c)
  have cI := fun c => foldI_code (l := l) (c := c)
  generalize foldL l = FL at hc76 hL cL
  generalize foldI l = FI at hc51 hI cI
  have e1 : ((l.length : Int) - 1).toNat = l.length - 1 := by omega
  cases FL <;> cases FI
  all_goals simp only [encRF, encRI] at hc76 hc51
  all_goals
    repeat' (first | (refine is_cons ?_; first | (refine is_g ?_; first | refine rl_on rfl rfl ?_ | refine rl_off rfl rfl ?_ | refine rl_offU rfl ?_ | (refine rl_case rfl ?_ ?_ <;> (intro h; first | subst h | (simp only [Bool.not_eq_true', Bool.not_eq_false'] at h; subst h)))) | (refine is_mv ?_; first | refine mv_val rfl ?_) | (refine is_st ?_; first | refine st_store rfl (by first | refine lookM_hd | exact lookM_sl rfl lookM_hd | (repeat (first | refine lookM_hd | refine lookM_sl rfl ?_))) rfl (by (try simp only [nfA, ecase, T_md, Nat.reduceAdd]) <;> apply rfl) ?_) | (refine is_as ?_; first | refine as_val rfl ?_ | refine as_new rfl rfl ?_) | (refine is_ld ?_; first | refine ld_load rfl (by first | refine lookM_hd | exact lookM_sl rfl lookM_hd | (repeat (first | refine lookM_hd | refine lookM_sl rfl ?_))) rfl (by (try simp only [nfA, ecase, T_md, Nat.reduceAdd]) <;> apply rfl) ?_ | refine ld_valn rfl (by (try simp only [nfA, ecase, T_md, Nat.reduceAdd]) <;> apply rfl) ?_) | (refine is_bo ?_; first | refine rl_binT rfl ?_ | refine rl_binF rfl ?_ | (refine rl_binB rfl ?_; intro _ _) | (refine rl_half rfl (by (try simp only [maxLen_eq, List.length_map, decide_eq_true_eq, decide_eq_false_iff_not] at *); omega) ?_) | (refine rl_binW rfl (by (try simp only [maxLen_eq, List.length_map, decide_eq_true_eq, decide_eq_false_iff_not] at *); omega) ?_) | refine bo_val rfl ?_) | (refine is_fa ?_; first | refine fa_valn rfl (by (try simp only [nfA, ecase, T_md, Nat.reduceAdd]) <;> apply rfl) ?_) | (refine is_ex ?_; first | (refine rl_extB rfl ?_; intro _ _) | refine ex_valn rfl (by (try simp only [nfA, ecase, T_md, Nat.reduceAdd]) <;> apply rfl) ?_) | (refine is_al ?_; first | refine al_alloc rfl (by (try simp only [nfA, ecase, T_md, Nat.reduceAdd]) <;> apply rfl) ?_) | (refine is_bd ?_; first | refine bd_valn rfl (by (try simp only [nfA, ecase, T_md, Nat.reduceAdd]) <;> apply rfl) ?_) | (refine is_pk ?_; first | refine pk_twoT rfl rfl ?_ | refine pk_twoF rfl rfl ?_ | (refine pk_case rfl ?_ ?_ <;> (intro h; subst h))) | (refine is_bx ?_; first | refine bx_alloc rfl (by (try simp only [nfA, ecase, T_md, Nat.reduceAdd]) <;> apply rfl) ?_) | (refine is_ia ?_; first | (refine ia_elt rfl ?_ (fun _ _ => ?_))) | (refine is_bi ?_; first | refine bi_val rfl ?_ | refine bi_own rfl (by first | refine lookB_hd | exact lookB_tt lookB_hd | (repeat (first | refine lookB_hd | refine lookB_sl rfl ?_))) ?_ ?_ | refine bi_needN rfl ?_ ?_ | (refine bi_gated rfl (by (try simp only [nfA, ecase, T_md, Nat.reduceAdd]) <;> apply rfl) ?_; intro _)) | (refine is_cf 76 ?_; refine cf hc76 rfl ⟨.inl rfl, trivial⟩ ?_) | (refine is_cf 77 ?_; refine cf hc51 rfl ⟨.inl rfl, trivial⟩ ?_)) | refine rl_nil ?_ | (refine is_aw ?_; first | refine aw_seq ?_ | refine aw_scope ?_ | refine aw_reg rfl ?_ | refine aw_draw rfl ?_ | refine aw_condT rfl ?_ | refine aw_condF rfl ?_ | (refine aw_condN rfl ?_ ?_ <;> (intro h; subst h)) | (refine aw_cond rfl ?_ ?_ <;> (intro h; subst h)) | refine aw_skip ?_ | refine aw_ret ?_ | refine aw_exit ?_ | refine aw_block ?_ | refine aw_label ?_) | refine tq_n ?_ | refine ng_n ?_ | refine ng_r ?_ | refine ng_x ?_ | refine ⟨(rfl : regOk _ _ = true), ?_⟩ | refine tq_r ?_ | refine tq_x ?_ | refine bq_n ?_ | refine bq_x ?_ | refine bq_r ?_ | refine bq_o rfl ?_ | refine fq_r rfl ?_ | refine fq_n rfl ?_)
  all_goals try (simp only [maxLen_eq, List.length_map, decide_eq_true_eq, decide_eq_false_iff_not, Int.toNat_natCast, Bool.not_eq_true', Bool.not_eq_false', Bool.not_eq_true, Bool.not_eq_false] at *; omega)
  all_goals first
    | (rename_i x hx hk hz
       simp only [maxLen_eq, List.length_map, decide_eq_true_eq, decide_eq_false_iff_not, Int.toNat_natCast, Bool.not_eq_true', Bool.not_eq_false', Bool.not_eq_true, Bool.not_eq_false] at *
       rw [e1] at hx
       first
         | (rw [hL x hx hk]; rfl)
         | (rw [hI (fun b hb q => by rw [hx] at hb; cases hb; exact hk q)]; rfl)
         | (exfalso; have := cL _ rfl; omega)
         | (exfalso; have := cI _ rfl; omega))
    | (rename_i x hx hk
       simp only [maxLen_eq, List.length_map, decide_eq_true_eq, decide_eq_false_iff_not, Int.toNat_natCast, Bool.not_eq_true', Bool.not_eq_false', Bool.not_eq_true, Bool.not_eq_false] at *
       rw [e1] at hx
       first
         | (rw [hL x hx hk]; rfl)
         | (rw [hI (fun b hb q => by rw [hx] at hb; cases hb; exact hk q)]; rfl))
    | (simp only [maxLen_eq, List.length_map, decide_eq_true_eq, decide_eq_false_iff_not, Int.toNat_natCast, Bool.not_eq_true', Bool.not_eq_false', Bool.not_eq_true, Bool.not_eq_false] at *
       first
         | (exfalso; have := cI _ rfl; omega)
         | (rw [hI (fun b hb q => by have := (List.getElem?_eq_some_iff.1 hb).1; omega)]; rfl))
end Go.Proofs.YtbeafnkcimfeeaaGreatDoor.AM.TT
