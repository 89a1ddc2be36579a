/- Contracts of the functions, by the abstract machine. -/
import Derived.Test.YtehhgamkijkjgaaPfH2
namespace Go.Proofs.Ytehhgamkijkjgaa.AM.TT
open Go Go.Proofs.Ytehhgamkijkjgaa.AM Go.Proofs
set_option linter.unusedSimpArgs false
set_option linter.unusedVariables false
attribute [local irreducible] RunL AWp StepK OpK thenQ blockQ noGotoQ fnQ
theorem enter69 : EnterOk Try.prog 69 := EnterOk_of (fn := Try.f69) (by kernel_rfl) (by kernel_rfl) (by kernel_rfl)
theorem f69_calls (p : List (List Row)) (hs : p.flatten.length ≤ 1000000) : CallsD Try.prog 69 [.lst 1 (p.map er1)] (.lst 2 (ers p.flatten)) := by
  refine CallsD_bd enter69 fun hbd => CallsD_of good mixed (fn := Try.f69) (by kernel_rfl) rfl enter69 (Nat.le_of_ble_eq_true rfl) ?_
  show AWp _ _ _ _ _ ⟨[(0, _)], [], [], 0⟩
  have hb := (hbd (.lst 1 (p.map er1)) (by simp)).lst.1
  simp only [List.length_map] at hb
  repeat' (first
      | (refine is_cons ?_; first
          | (refine is_mv ?_; first | refine mv_val rfl ?_)
          | (refine is_as ?_; first | refine as_val rfl ?_ | refine as_new rfl rfl ?_)
          | (refine is_bo ?_; first | refine rl_binT rfl ?_ | refine rl_binF rfl ?_ | (refine rl_binB rfl ?_; intro _ _) | (refine rl_half rfl (by (try simp only [maxLen_eq, List.length_map, decide_eq_true_eq, decide_eq_false_iff_not] at *); omega) ?_) | (refine rl_binW rfl (by (try simp only [maxLen_eq, List.length_map, decide_eq_true_eq, decide_eq_false_iff_not] at *); omega) ?_) | refine bo_val rfl ?_)
          | (refine is_ld ?_; first | refine ld_load rfl (by first | rfl | (repeat (first | exact lookM_hd | refine lookM_sl rfl ?_))) rfl (by (try simp only [nfA, Nat.reduceAdd]) <;> exact rfl) ?_ | refine ld_valn rfl (by (try simp only [nfA, Nat.reduceAdd]) <;> exact rfl) ?_)
          | (refine is_ia ?_; first | (refine ia_elt rfl ?_ (fun _ _ => ?_)))
          | (refine is_bi ?_; first | (refine bi_gated rfl (by (try simp only [nfA, Nat.reduceAdd]) <;> exact rfl) ?_; intro _) | refine bi_val rfl ?_ | refine bi_own rfl (by first | rfl | (repeat (first | exact lookB_hd | refine lookB_sl rfl ?_))) ?_ ?_ | refine bi_needN rfl ?_ ?_))
      | refine rl_nil ?_
      | (refine is_aw ?_; first
          | refine aw_seq ?_
          | refine aw_scope ?_
          | refine aw_reg rfl ?_
          | refine aw_draw rfl ?_
          | refine aw_condT rfl ?_
          | refine aw_condF rfl ?_
          | (refine aw_condN rfl ?_ ?_ <;> (intro h; subst h))
          | (refine aw_cond rfl ?_ ?_ <;> (intro h; subst h))
          | refine aw_skip ?_
          | refine aw_ret ?_
          | refine aw_exit ?_
          | refine aw_block ?_
          | refine aw_label ?_)
      | refine tq_n ?_
      | refine ng_n ?_
      | refine ng_r ?_
      | refine ng_x ?_
      | refine ⟨(rfl : regOk _ _ = true), ?_⟩
      | refine tq_r ?_
      | refine tq_x ?_
      | refine bq_n ?_
      | refine bq_x ?_
      | refine bq_r ?_
      | refine bq_o rfl ?_
      | refine fq_r rfl ?_
      | refine fq_n rfl ?_)
  refine aw_loopX (fun (x : Nat × Key) e => ⟨[(8, .dat (I x.1)), (7, .dat (I p.length)), (6, .dat (.lst 1 (p.map er1))), (3, .acc x.2 2 (ers (p.take x.1).flatten))], [], [(x.2, true)], e⟩) (fun x => x.1 ≤ p.length) (fun x => p.length - x.1) (0, (3, 0, 2)) _ (le_of ⟨rfl, by simp [lookE], rfl, rfl, trivial⟩ trivial ⟨rfl, trivial⟩ (Nat.le_refl _)) (by simp) ?_
  rintro ⟨n, τ⟩ e hn
  dsimp only at hn ⊢
  repeat' (first
      | (refine is_cons ?_; first
          | (refine is_mv ?_; first | refine mv_val rfl ?_)
          | (refine is_as ?_; first | refine as_val rfl ?_ | refine as_new rfl rfl ?_)
          | (refine is_bo ?_; first | refine rl_binT rfl ?_ | refine rl_binF rfl ?_ | (refine rl_binB rfl ?_; intro _ _) | (refine rl_half rfl (by (try simp only [maxLen_eq, List.length_map, decide_eq_true_eq, decide_eq_false_iff_not] at *); omega) ?_) | (refine rl_binW rfl (by (try simp only [maxLen_eq, List.length_map, decide_eq_true_eq, decide_eq_false_iff_not] at *); omega) ?_) | refine bo_val rfl ?_)
          | (refine is_ld ?_; first | refine ld_load rfl (by first | rfl | (repeat (first | exact lookM_hd | refine lookM_sl rfl ?_))) rfl (by (try simp only [nfA, Nat.reduceAdd]) <;> exact rfl) ?_ | refine ld_valn rfl (by (try simp only [nfA, Nat.reduceAdd]) <;> exact rfl) ?_)
          | (refine is_ia ?_; first | (refine ia_elt rfl ?_ (fun _ _ => ?_)))
          | (refine is_bi ?_; first | (refine bi_gated rfl (by (try simp only [nfA, Nat.reduceAdd]) <;> exact rfl) ?_; intro _) | refine bi_val rfl ?_ | refine bi_own rfl (by first | rfl | (repeat (first | exact lookB_hd | refine lookB_sl rfl ?_))) ?_ ?_ | refine bi_needN rfl ?_ ?_))
      | refine rl_nil ?_
      | (refine is_aw ?_; first
          | refine aw_seq ?_
          | refine aw_scope ?_
          | refine aw_reg rfl ?_
          | refine aw_draw rfl ?_
          | refine aw_condT rfl ?_
          | refine aw_condF rfl ?_
          | (refine aw_condN rfl ?_ ?_ <;> (intro h; subst h))
          | (refine aw_cond rfl ?_ ?_ <;> (intro h; subst h))
          | refine aw_skip ?_
          | refine aw_ret ?_
          | refine aw_exit ?_
          | refine aw_block ?_
          | refine aw_label ?_)
      | refine tq_n ?_
      | refine ng_n ?_
      | refine ng_r ?_
      | refine ng_x ?_
      | refine ⟨(rfl : regOk _ _ = true), ?_⟩
      | refine tq_r ?_
      | refine tq_x ?_
      | refine bq_n ?_
      | refine bq_x ?_
      | refine bq_r ?_
      | refine bq_o rfl ?_
      | refine fq_r rfl ?_
      | refine fq_n rfl ?_)
  · simp only [maxLen_eq, List.length_map, decide_eq_true_eq, decide_eq_false_iff_not, Int.toNat_natCast, Bool.not_eq_true', Bool.not_eq_false', Bool.not_eq_true, Bool.not_eq_false] at *; omega
  · rename_i hl x hx
    simp only [Int.toNat_natCast] at hx
    have h1 := flatten_le p (n + 1)
    rw [take_flatten hx] at h1
    simp only [List.length_append, List.length_map, maxLen_eq] at *
    omega
  · rename_i hl x hx
    simp only [Int.toNat_natCast, decide_eq_true_eq] at hx hl
    exact ⟨(n + 1, (14, 0, _)), _, by dsimp only; omega, le_of ⟨rfl, rfl, rfl, by dsimp only; rw [take_flatten hx]; simp only [ers, List.map_append]; rfl, trivial⟩ trivial ⟨lookB_hd, trivial⟩ (Nat.le_refl _), by dsimp only; omega⟩
  · rename_i hl
    simp only [maxLen_eq, List.length_map, decide_eq_true_eq, decide_eq_false_iff_not, Int.toNat_natCast, Bool.not_eq_true', Bool.not_eq_false', Bool.not_eq_true, Bool.not_eq_false] at *
    have : n = p.length := by omega
    subst this
    simp [normD, norm1]
theorem enter44 : EnterOk Try.prog 44 := EnterOk_of (fn := Try.f44) (by kernel_rfl) (by kernel_rfl) (by kernel_rfl)
theorem f44_calls (l : List Row) (hs : l.length ≤ 1000000) : CallsD Try.prog 44 [.lst 2 (ers l)] (.lst 2 (ers l)) := by
  refine CallsD_bd enter44 fun hbd => CallsD_of good mixed (fn := Try.f44) (by kernel_rfl) rfl enter44 (Nat.le_of_ble_eq_true rfl) ?_
  show AWp _ _ _ _ _ ⟨[(0, _)], [], [], 0⟩
  repeat' (first
      | (refine is_cons ?_; first
          | (refine is_as ?_; first | refine as_val rfl ?_ | refine as_new rfl rfl ?_)
          | (refine is_mv ?_; first | refine mv_val rfl ?_)
          | (refine is_bs ?_; first | refine bs_new rfl (by (try simp only [nfA, Nat.reduceAdd]) <;> exact rfl) ?_)
          | (refine is_cf 69 ?_; first | refine cf (f69_calls [l] (by simpa using hs)) rfl ⟨.inl rfl, trivial⟩ ?_ | refine cf (f69_calls [l] (by simpa using hs)) rfl ⟨(by first | exact .inl rfl | exact .inr (.inl rfl) | exact .inr (.inr ⟨_, _, rfl, rfl⟩)), trivial⟩ ?_))
      | refine rl_nil ?_
      | (refine is_aw ?_; first
          | refine aw_seq ?_
          | refine aw_scope ?_
          | refine aw_reg rfl ?_
          | refine aw_draw rfl ?_
          | refine aw_condT rfl ?_
          | refine aw_condF rfl ?_
          | (refine aw_condN rfl ?_ ?_ <;> (intro h; subst h))
          | (refine aw_cond rfl ?_ ?_ <;> (intro h; subst h))
          | refine aw_skip ?_
          | refine aw_ret ?_
          | refine aw_exit ?_
          | refine aw_block ?_
          | refine aw_label ?_)
      | refine tq_n ?_
      | refine ng_n ?_
      | refine ng_r ?_
      | refine ng_x ?_
      | refine ⟨(rfl : regOk _ _ = true), ?_⟩
      | refine tq_r ?_
      | refine tq_x ?_
      | refine bq_n ?_
      | refine bq_x ?_
      | refine bq_r ?_
      | refine bq_o rfl ?_
      | refine fq_r rfl ?_
      | refine fq_n rfl ?_)
  simp [normD, norm1]
theorem enter84 : EnterOk Try.prog 84 := EnterOk_of (fn := Try.f84) (by kernel_rfl) (by kernel_rfl) (by kernel_rfl)
theorem f84_calls (l : List Row) (r : Row) (hf : fitsK r = true) (hs : l.length ≤ 999999) : CallsD Try.prog 84 [.lst 2 (ers l), .agg (er r)] (.tup [.lst 2 (ers (putR l r (there l r.key))), .bool (there l r.key), .nilI]) := by
  refine CallsD_bd enter84 fun hbd => CallsD_of good mixed (fn := Try.f84) (by kernel_rfl) rfl enter84 (Nat.le_of_ble_eq_true rfl) ?_
  show AWp _ _ _ _ _ ⟨[(0, _), (1, _)], [], [], 0⟩
  have hp := place_le l r.key
  repeat' (first
      | (refine is_cons ?_; first
          | (refine is_as ?_; first | refine as_val rfl ?_ | refine as_new rfl rfl ?_)
          | (refine is_mv ?_; first | refine mv_val rfl ?_)
          | (refine is_ld ?_; first | refine ld_load rfl (by first | rfl | (repeat (first | exact lookM_hd | refine lookM_sl rfl ?_))) rfl (by (try simp only [nfA, Nat.reduceAdd]) <;> exact rfl) ?_ | refine ld_valn rfl (by (try simp only [nfA, Nat.reduceAdd]) <;> exact rfl) ?_)
          | (refine is_ex ?_; first | (refine rl_extB rfl ?_; intro _ _) | refine ex_valn rfl (by (try simp only [nfA, Nat.reduceAdd]) <;> exact rfl) ?_)
          | (refine is_bs ?_; first | refine bs_new rfl (by (try simp only [nfA, Nat.reduceAdd]) <;> exact rfl) ?_)
          | (refine is_sl ?_; first | refine sl_need rfl (by (try simp only [nfA, Nat.reduceAdd]) <;> exact rfl) ?_ ?_)
          | (refine is_bo ?_; first | refine rl_binT rfl ?_ | refine rl_binF rfl ?_ | (refine rl_binB rfl ?_; intro _ _) | (refine rl_half rfl (by (try simp only [maxLen_eq, List.length_map, decide_eq_true_eq, decide_eq_false_iff_not] at *); omega) ?_) | (refine rl_binW rfl (by (try simp only [maxLen_eq, List.length_map, decide_eq_true_eq, decide_eq_false_iff_not] at *); omega) ?_) | refine bo_val rfl ?_)
          | (refine is_fa ?_; first | refine fa_valn rfl (by (try simp only [nfA, Nat.reduceAdd]) <;> exact rfl) ?_)
          | (refine is_bx ?_; first | refine bx_alloc rfl (by (try simp only [nfA, Nat.reduceAdd]) <;> exact rfl) ?_)
          | (refine is_uo ?_; first | refine uo_val rfl ?_)
          | (refine is_mi ?_; first | refine mi_val rfl ?_)
          | (refine is_cf 96 ?_; first | (refine cfB (f96_calls _) rfl ⟨.inl rfl, trivial⟩ ?_; intro _ _) | (refine cfB (f96_calls _) rfl ⟨(by first | exact .inl rfl | exact .inr (.inl rfl) | exact .inr (.inr ⟨_, _, rfl, rfl⟩)), trivial⟩ ?_; intro _ _))
          | (refine is_cf 98 ?_; first | refine cf (f98_calls _ _) rfl ⟨.inl rfl, .inl rfl, trivial⟩ ?_ | refine cf (f98_calls _ _) rfl ⟨(by first | exact .inl rfl | exact .inr (.inl rfl) | exact .inr (.inr ⟨_, _, rfl, rfl⟩)), (by first | exact .inl rfl | exact .inr (.inl rfl) | exact .inr (.inr ⟨_, _, rfl, rfl⟩)), trivial⟩ ?_)
          | (refine is_cf 69 ?_; first | refine cf (f69_calls [l.take (place l r.key), [r], l.drop (place l r.key + 1)] (by simp; omega)) rfl ⟨.inl rfl, trivial⟩ ?_ | refine cf (f69_calls [l.take (place l r.key), [r], l.drop (place l r.key + 1)] (by simp; omega)) rfl ⟨(by first | exact .inl rfl | exact .inr (.inl rfl) | exact .inr (.inr ⟨_, _, rfl, rfl⟩)), trivial⟩ ?_)
          | (refine is_cf 69 ?_; first | refine cf (f69_calls [l.take (place l r.key), [r], l.drop (place l r.key)] (by simp; omega)) rfl ⟨.inl rfl, trivial⟩ ?_ | refine cf (f69_calls [l.take (place l r.key), [r], l.drop (place l r.key)] (by simp; omega)) rfl ⟨(by first | exact .inl rfl | exact .inr (.inl rfl) | exact .inr (.inr ⟨_, _, rfl, rfl⟩)), trivial⟩ ?_))
      | refine rl_nil ?_
      | (refine is_aw ?_; first
          | refine aw_seq ?_
          | refine aw_scope ?_
          | refine aw_reg rfl ?_
          | refine aw_draw rfl ?_
          | refine aw_condT rfl ?_
          | refine aw_condF rfl ?_
          | (refine aw_condN rfl ?_ ?_ <;> (intro h; subst h))
          | (refine aw_cond rfl ?_ ?_ <;> (intro h; subst h))
          | refine aw_skip ?_
          | refine aw_ret ?_
          | refine aw_exit ?_
          | refine aw_block ?_
          | refine aw_label ?_)
      | refine tq_n ?_
      | refine ng_n ?_
      | refine ng_r ?_
      | refine ng_x ?_
      | refine ⟨(rfl : regOk _ _ = true), ?_⟩
      | refine tq_r ?_
      | refine tq_x ?_
      | refine bq_n ?_
      | refine bq_x ?_
      | refine bq_r ?_
      | refine bq_o rfl ?_
      | refine fq_r rfl ?_
      | refine fq_n rfl ?_)
  all_goals (try simp only [List.length_map] at *)
  all_goals first
    | omega
    | (have := place_lt ‹there l r.key = true›; omega)
    | simp_all [normD, norm1, putR]
theorem f84_calls_no (l : List Row) (r : Row) (hf : fitsK r = false) : CallsD Try.prog 84 [.lst 2 (ers l), .agg (er r)] (.tup [.lst 2 [], .bool false, EE 1]) := by
  refine CallsD_bd enter84 fun hbd => CallsD_of good mixed (fn := Try.f84) (by kernel_rfl) rfl enter84 (Nat.le_of_ble_eq_true rfl) ?_
  show AWp _ _ _ _ _ ⟨[(0, _), (1, _)], [], [], 0⟩
  repeat' (first
      | (refine is_cons ?_; first
          | (refine is_as ?_; first | refine as_val rfl ?_ | refine as_new rfl rfl ?_)
          | (refine is_mv ?_; first | refine mv_val rfl ?_)
          | (refine is_ld ?_; first | refine ld_load rfl (by first | rfl | (repeat (first | exact lookM_hd | refine lookM_sl rfl ?_))) rfl (by (try simp only [nfA, Nat.reduceAdd]) <;> exact rfl) ?_ | refine ld_valn rfl (by (try simp only [nfA, Nat.reduceAdd]) <;> exact rfl) ?_)
          | (refine is_ex ?_; first | (refine rl_extB rfl ?_; intro _ _) | refine ex_valn rfl (by (try simp only [nfA, Nat.reduceAdd]) <;> exact rfl) ?_)
          | (refine is_bs ?_; first | refine bs_new rfl (by (try simp only [nfA, Nat.reduceAdd]) <;> exact rfl) ?_)
          | (refine is_sl ?_; first | refine sl_need rfl (by (try simp only [nfA, Nat.reduceAdd]) <;> exact rfl) ?_ ?_)
          | (refine is_bo ?_; first | refine rl_binT rfl ?_ | refine rl_binF rfl ?_ | (refine rl_binB rfl ?_; intro _ _) | (refine rl_half rfl (by (try simp only [maxLen_eq, List.length_map, decide_eq_true_eq, decide_eq_false_iff_not] at *); omega) ?_) | (refine rl_binW rfl (by (try simp only [maxLen_eq, List.length_map, decide_eq_true_eq, decide_eq_false_iff_not] at *); omega) ?_) | refine bo_val rfl ?_)
          | (refine is_fa ?_; first | refine fa_valn rfl (by (try simp only [nfA, Nat.reduceAdd]) <;> exact rfl) ?_)
          | (refine is_bx ?_; first | refine bx_alloc rfl (by (try simp only [nfA, Nat.reduceAdd]) <;> exact rfl) ?_)
          | (refine is_uo ?_; first | refine uo_val rfl ?_)
          | (refine is_mi ?_; first | refine mi_val rfl ?_)
          | (refine is_cf 96 ?_; first | (refine cfB (f96_calls _) rfl ⟨.inl rfl, trivial⟩ ?_; intro _ _) | (refine cfB (f96_calls _) rfl ⟨(by first | exact .inl rfl | exact .inr (.inl rfl) | exact .inr (.inr ⟨_, _, rfl, rfl⟩)), trivial⟩ ?_; intro _ _))
          | (refine is_cf 98 ?_; first | refine cf (f98_calls _ _) rfl ⟨.inl rfl, .inl rfl, trivial⟩ ?_ | refine cf (f98_calls _ _) rfl ⟨(by first | exact .inl rfl | exact .inr (.inl rfl) | exact .inr (.inr ⟨_, _, rfl, rfl⟩)), (by first | exact .inl rfl | exact .inr (.inl rfl) | exact .inr (.inr ⟨_, _, rfl, rfl⟩)), trivial⟩ ?_))
      | refine rl_nil ?_
      | (refine is_aw ?_; first
          | refine aw_seq ?_
          | refine aw_scope ?_
          | refine aw_reg rfl ?_
          | refine aw_draw rfl ?_
          | refine aw_condT rfl ?_
          | refine aw_condF rfl ?_
          | (refine aw_condN rfl ?_ ?_ <;> (intro h; subst h))
          | (refine aw_cond rfl ?_ ?_ <;> (intro h; subst h))
          | refine aw_skip ?_
          | refine aw_ret ?_
          | refine aw_exit ?_
          | refine aw_block ?_
          | refine aw_label ?_)
      | refine tq_n ?_
      | refine ng_n ?_
      | refine ng_r ?_
      | refine ng_x ?_
      | refine ⟨(rfl : regOk _ _ = true), ?_⟩
      | refine tq_r ?_
      | refine tq_x ?_
      | refine bq_n ?_
      | refine bq_x ?_
      | refine bq_r ?_
      | refine bq_o rfl ?_
      | refine fq_r rfl ?_
      | refine fq_n rfl ?_)
  all_goals first
    | rfl
    | simp_all
theorem enter86 : EnterOk Try.prog 86 := EnterOk_of (fn := Try.f86) (by kernel_rfl) (by kernel_rfl) (by kernel_rfl)
theorem f86_calls (l : List Row) (k : Str) (hs : l.length ≤ 999999) : CallsD Try.prog 86 [.lst 2 (ers l), .str k] (.tup [.lst 2 (ers (dropR l k)), .bool (there l k)]) := by
  refine CallsD_bd enter86 fun hbd => CallsD_of good mixed (fn := Try.f86) (by kernel_rfl) rfl enter86 (Nat.le_of_ble_eq_true rfl) ?_
  show AWp _ _ _ _ _ ⟨[(0, _), (1, _)], [], [], 0⟩
  have hp := place_le l k
  repeat' (first
      | (refine is_cons ?_; first
          | (refine is_mv ?_; first | refine mv_val rfl ?_)
          | (refine is_as ?_; first | refine as_val rfl ?_ | refine as_new rfl rfl ?_)
          | (refine is_ex ?_; first | (refine rl_extB rfl ?_; intro _ _) | refine ex_valn rfl (by (try simp only [nfA, Nat.reduceAdd]) <;> exact rfl) ?_)
          | (refine is_bs ?_; first | refine bs_new rfl (by (try simp only [nfA, Nat.reduceAdd]) <;> exact rfl) ?_)
          | (refine is_sl ?_; first | refine sl_need rfl (by (try simp only [nfA, Nat.reduceAdd]) <;> exact rfl) ?_ ?_)
          | (refine is_bo ?_; first | refine rl_binT rfl ?_ | refine rl_binF rfl ?_ | (refine rl_binB rfl ?_; intro _ _) | (refine rl_half rfl (by (try simp only [maxLen_eq, List.length_map, decide_eq_true_eq, decide_eq_false_iff_not] at *); omega) ?_) | (refine rl_binW rfl (by (try simp only [maxLen_eq, List.length_map, decide_eq_true_eq, decide_eq_false_iff_not] at *); omega) ?_) | refine bo_val rfl ?_)
          | (refine is_uo ?_; first | refine uo_val rfl ?_)
          | (refine is_cf 98 ?_; first | refine cf (f98_calls _ _) rfl ⟨.inl rfl, .inl rfl, trivial⟩ ?_ | refine cf (f98_calls _ _) rfl ⟨(by first | exact .inl rfl | exact .inr (.inl rfl) | exact .inr (.inr ⟨_, _, rfl, rfl⟩)), (by first | exact .inl rfl | exact .inr (.inl rfl) | exact .inr (.inr ⟨_, _, rfl, rfl⟩)), trivial⟩ ?_)
          | (refine is_cf 69 ?_; first | refine cf (f69_calls [l] (by simp; omega)) rfl ⟨.inl rfl, trivial⟩ ?_ | refine cf (f69_calls [l] (by simp; omega)) rfl ⟨(by first | exact .inl rfl | exact .inr (.inl rfl) | exact .inr (.inr ⟨_, _, rfl, rfl⟩)), trivial⟩ ?_)
          | (refine is_cf 69 ?_; first | refine cf (f69_calls [l.take (place l k), l.drop (place l k + 1)] (by simp; omega)) rfl ⟨.inl rfl, trivial⟩ ?_ | refine cf (f69_calls [l.take (place l k), l.drop (place l k + 1)] (by simp; omega)) rfl ⟨(by first | exact .inl rfl | exact .inr (.inl rfl) | exact .inr (.inr ⟨_, _, rfl, rfl⟩)), trivial⟩ ?_))
      | refine rl_nil ?_
      | (refine is_aw ?_; first
          | refine aw_seq ?_
          | refine aw_scope ?_
          | refine aw_reg rfl ?_
          | refine aw_draw rfl ?_
          | refine aw_condT rfl ?_
          | refine aw_condF rfl ?_
          | (refine aw_condN rfl ?_ ?_ <;> (intro h; subst h))
          | (refine aw_cond rfl ?_ ?_ <;> (intro h; subst h))
          | refine aw_skip ?_
          | refine aw_ret ?_
          | refine aw_exit ?_
          | refine aw_block ?_
          | refine aw_label ?_)
      | refine tq_n ?_
      | refine ng_n ?_
      | refine ng_r ?_
      | refine ng_x ?_
      | refine ⟨(rfl : regOk _ _ = true), ?_⟩
      | refine tq_r ?_
      | refine tq_x ?_
      | refine bq_n ?_
      | refine bq_x ?_
      | refine bq_r ?_
      | refine bq_o rfl ?_
      | refine fq_r rfl ?_
      | refine fq_n rfl ?_)
  all_goals (try simp only [List.length_map] at *)
  all_goals first
    | omega
    | (have := place_lt ‹there l k = true›; omega)
    | simp_all [normD, norm1, dropR]
theorem enter87 : EnterOk Try.prog 87 := EnterOk_of (fn := Try.f87) (by kernel_rfl) (by kernel_rfl) (by kernel_rfl)
theorem f87_calls (l : List Row) (k : Str) (hs : l.length ≤ 999999) : CallsD Try.prog 87 [.lst 2 (ers l), .str k] (.tup [.lst 2 (ers (l.take (place l k))), .lst 2 (ers (l.drop (place l k)))]) := by
  refine CallsD_bd enter87 fun hbd => CallsD_of good mixed (fn := Try.f87) (by kernel_rfl) rfl enter87 (Nat.le_of_ble_eq_true rfl) ?_
  show AWp _ _ _ _ _ ⟨[(0, _), (1, _)], [], [], 0⟩
  have hp := place_le l k
  repeat' (first
      | (refine is_cons ?_; first
          | (refine is_mv ?_; first | refine mv_val rfl ?_)
          | (refine is_as ?_; first | refine as_val rfl ?_ | refine as_new rfl rfl ?_)
          | (refine is_bs ?_; first | refine bs_new rfl (by (try simp only [nfA, Nat.reduceAdd]) <;> exact rfl) ?_)
          | (refine is_sl ?_; first | refine sl_need rfl (by (try simp only [nfA, Nat.reduceAdd]) <;> exact rfl) ?_ ?_)
          | (refine is_cf 99 ?_; first | refine cf (f99_calls _ _) rfl ⟨.inl rfl, .inl rfl, trivial⟩ ?_ | refine cf (f99_calls _ _) rfl ⟨(by first | exact .inl rfl | exact .inr (.inl rfl) | exact .inr (.inr ⟨_, _, rfl, rfl⟩)), (by first | exact .inl rfl | exact .inr (.inl rfl) | exact .inr (.inr ⟨_, _, rfl, rfl⟩)), trivial⟩ ?_)
          | (refine is_cf 69 ?_; first | refine cf (f69_calls [l.take (place l k)] (by simp; omega)) rfl ⟨.inl rfl, trivial⟩ ?_ | refine cf (f69_calls [l.take (place l k)] (by simp; omega)) rfl ⟨(by first | exact .inl rfl | exact .inr (.inl rfl) | exact .inr (.inr ⟨_, _, rfl, rfl⟩)), trivial⟩ ?_)
          | (refine is_cf 69 ?_; first | refine cf (f69_calls [l.drop (place l k)] (by simp; omega)) rfl ⟨.inl rfl, trivial⟩ ?_ | refine cf (f69_calls [l.drop (place l k)] (by simp; omega)) rfl ⟨(by first | exact .inl rfl | exact .inr (.inl rfl) | exact .inr (.inr ⟨_, _, rfl, rfl⟩)), trivial⟩ ?_))
      | refine rl_nil ?_
      | (refine is_aw ?_; first
          | refine aw_seq ?_
          | refine aw_scope ?_
          | refine aw_reg rfl ?_
          | refine aw_draw rfl ?_
          | refine aw_condT rfl ?_
          | refine aw_condF rfl ?_
          | (refine aw_condN rfl ?_ ?_ <;> (intro h; subst h))
          | (refine aw_cond rfl ?_ ?_ <;> (intro h; subst h))
          | refine aw_skip ?_
          | refine aw_ret ?_
          | refine aw_exit ?_
          | refine aw_block ?_
          | refine aw_label ?_)
      | refine tq_n ?_
      | refine ng_n ?_
      | refine ng_r ?_
      | refine ng_x ?_
      | refine ⟨(rfl : regOk _ _ = true), ?_⟩
      | refine tq_r ?_
      | refine tq_x ?_
      | refine bq_n ?_
      | refine bq_x ?_
      | refine bq_r ?_
      | refine bq_o rfl ?_
      | refine fq_r rfl ?_
      | refine fq_n rfl ?_)
  all_goals (try simp only [List.length_map] at *)
  all_goals first
    | omega
    | simp_all [normD, norm1]
theorem enter88 : EnterOk Try.prog 88 := EnterOk_of (fn := Try.f88) (by kernel_rfl) (by kernel_rfl) (by kernel_rfl)
theorem f88_calls (a b : List Row) (h : joinOk a b = true) (hs : a.length + b.length ≤ 999999) : CallsD Try.prog 88 [.lst 2 (ers a), .lst 2 (ers b)] (.tup [.lst 2 (ers (a ++ b)), .nilI]) := by
  refine CallsD_bd enter88 fun hbd => CallsD_of good mixed (fn := Try.f88) (by kernel_rfl) rfl enter88 (Nat.le_of_ble_eq_true rfl) ?_
  show AWp _ _ _ _ _ ⟨[(0, _), (1, _)], [], [], 0⟩
  repeat' (first
      | (refine is_cons ?_; first
          | (refine is_g ?_; first | refine rl_on rfl rfl ?_ | refine rl_off rfl rfl ?_ | refine rl_offU rfl ?_ | (refine rl_case rfl ?_ ?_ <;> (intro h; first | subst h | (simp only [Bool.not_eq_true', Bool.not_eq_false'] at h; subst h))))
          | (refine is_mv ?_; first | refine mv_val rfl ?_)
          | (refine is_as ?_; first | refine as_val rfl ?_ | refine as_new rfl rfl ?_)
          | (refine is_bo ?_; first | refine rl_binT rfl ?_ | refine rl_binF rfl ?_ | (refine rl_binB rfl ?_; intro _ _) | (refine rl_half rfl (by (try simp only [maxLen_eq, List.length_map, decide_eq_true_eq, decide_eq_false_iff_not] at *); omega) ?_) | (refine rl_binW rfl (by (try simp only [maxLen_eq, List.length_map, decide_eq_true_eq, decide_eq_false_iff_not] at *); omega) ?_) | refine bo_val rfl ?_)
          | (refine is_ld ?_; first | refine ld_load rfl (by first | rfl | (repeat (first | exact lookM_hd | refine lookM_sl rfl ?_))) rfl (by (try simp only [nfA, Nat.reduceAdd]) <;> exact rfl) ?_ | refine ld_valn rfl (by (try simp only [nfA, Nat.reduceAdd]) <;> exact rfl) ?_)
          | (refine is_fa ?_; first | refine fa_valn rfl (by (try simp only [nfA, Nat.reduceAdd]) <;> exact rfl) ?_)
          | (refine is_pk ?_; first | refine pk_twoT rfl rfl ?_ | refine pk_twoF rfl rfl ?_ | (refine pk_case rfl ?_ ?_ <;> (intro h; subst h)))
          | (refine is_ia ?_; first | (refine ia_elt rfl ?_ (fun _ _ => ?_)))
          | (refine is_bs ?_; first | refine bs_new rfl (by (try simp only [nfA, Nat.reduceAdd]) <;> exact rfl) ?_)
          | (refine is_mi ?_; first | refine mi_val rfl ?_)
          | (refine is_bi ?_; first | (refine bi_gated rfl (by (try simp only [nfA, Nat.reduceAdd]) <;> exact rfl) ?_; intro _) | refine bi_val rfl ?_ | refine bi_own rfl (by first | rfl | (repeat (first | exact lookB_hd | refine lookB_sl rfl ?_))) ?_ ?_ | refine bi_needN rfl ?_ ?_)
          | (refine is_cf 62 ?_; first | refine cf (f62_calls _ _) rfl ⟨.inl rfl, .inl rfl, trivial⟩ ?_ | refine cf (f62_calls _ _) rfl ⟨(by first | exact .inl rfl | exact .inr (.inl rfl) | exact .inr (.inr ⟨_, _, rfl, rfl⟩)), (by first | exact .inl rfl | exact .inr (.inl rfl) | exact .inr (.inr ⟨_, _, rfl, rfl⟩)), trivial⟩ ?_)
          | (refine is_cf 69 ?_; first | refine cf (f69_calls [a, b] (by simp; omega)) rfl ⟨.inl rfl, trivial⟩ ?_ | refine cf (f69_calls [a, b] (by simp; omega)) rfl ⟨(by first | exact .inl rfl | exact .inr (.inl rfl) | exact .inr (.inr ⟨_, _, rfl, rfl⟩)), trivial⟩ ?_))
      | refine rl_nil ?_
      | (refine is_aw ?_; first
          | refine aw_seq ?_
          | refine aw_scope ?_
          | refine aw_reg rfl ?_
          | refine aw_draw rfl ?_
          | refine aw_condT rfl ?_
          | refine aw_condF rfl ?_
          | (refine aw_condN rfl ?_ ?_ <;> (intro h; subst h))
          | (refine aw_cond rfl ?_ ?_ <;> (intro h; subst h))
          | refine aw_skip ?_
          | refine aw_ret ?_
          | refine aw_exit ?_
          | refine aw_block ?_
          | refine aw_label ?_)
      | refine tq_n ?_
      | refine ng_n ?_
      | refine ng_r ?_
      | refine ng_x ?_
      | refine ⟨(rfl : regOk _ _ = true), ?_⟩
      | refine tq_r ?_
      | refine tq_x ?_
      | refine bq_n ?_
      | refine bq_x ?_
      | refine bq_r ?_
      | refine bq_o rfl ?_
      | refine fq_r rfl ?_
      | refine fq_n rfl ?_)
  · simp only [maxLen_eq, List.length_map, decide_eq_true_eq, decide_eq_false_iff_not, Int.toNat_natCast, Bool.not_eq_true', Bool.not_eq_false', Bool.not_eq_true, Bool.not_eq_false] at *; omega
  · simp only [maxLen_eq, List.length_map, decide_eq_true_eq, decide_eq_false_iff_not, Int.toNat_natCast, Bool.not_eq_true', Bool.not_eq_false', Bool.not_eq_true, Bool.not_eq_false] at *; omega
  · rename_i ha hb _ x hx y hy hc
    simp only [cmp_ge] at hc
    simp only [maxLen_eq, List.length_map, decide_eq_true_eq, decide_eq_false_iff_not, Int.toNat_natCast, Bool.not_eq_true', Bool.not_eq_false', Bool.not_eq_true, Bool.not_eq_false] at *
    exfalso
    have e : ((a.length : Int) - 1).toNat = a.length - 1 := by omega
    rw [e] at hx
    simp only [Int.toNat_zero] at hy
    simp only [joinOk, List.getLast?_eq_getElem?, hx, List.head?_eq_getElem?, hy] at h
    rw [h] at hc; cases hc
  · simp [normD, norm1]
  · simp [normD, norm1]
  · simp [normD, norm1]
theorem f88_calls_no (a b : List Row) (h : joinOk a b = false) : CallsD Try.prog 88 [.lst 2 (ers a), .lst 2 (ers b)] (.tup [.lst 2 [], EE 2]) := by
  refine CallsD_bd enter88 fun hbd => CallsD_of good mixed (fn := Try.f88) (by kernel_rfl) rfl enter88 (Nat.le_of_ble_eq_true rfl) ?_
  show AWp _ _ _ _ _ ⟨[(0, _), (1, _)], [], [], 0⟩
  have hl : a.length ≠ 0 ∧ b.length ≠ 0 := by
    unfold joinOk at h
    rcases a with _ | ⟨a0, a⟩
    · simp at h
    · rcases b with _ | ⟨b0, b⟩
      · simp at h
      · simp
  repeat' (first
      | (refine is_cons ?_; first
          | (refine is_g ?_; first | refine rl_on rfl rfl ?_ | refine rl_off rfl rfl ?_ | refine rl_offU rfl ?_ | (refine rl_case rfl ?_ ?_ <;> (intro h; first | subst h | (simp only [Bool.not_eq_true', Bool.not_eq_false'] at h; subst h))))
          | (refine is_mv ?_; first | refine mv_val rfl ?_)
          | (refine is_as ?_; first | refine as_val rfl ?_ | refine as_new rfl rfl ?_)
          | (refine is_bo ?_; first | refine rl_binT rfl ?_ | refine rl_binF rfl ?_ | (refine rl_binB rfl ?_; intro _ _) | (refine rl_half rfl (by (try simp only [maxLen_eq, List.length_map, decide_eq_true_eq, decide_eq_false_iff_not] at *); omega) ?_) | (refine rl_binW rfl (by (try simp only [maxLen_eq, List.length_map, decide_eq_true_eq, decide_eq_false_iff_not] at *); omega) ?_) | refine bo_val rfl ?_)
          | (refine is_ld ?_; first | refine ld_load rfl (by first | rfl | (repeat (first | exact lookM_hd | refine lookM_sl rfl ?_))) rfl (by (try simp only [nfA, Nat.reduceAdd]) <;> exact rfl) ?_ | refine ld_valn rfl (by (try simp only [nfA, Nat.reduceAdd]) <;> exact rfl) ?_)
          | (refine is_fa ?_; first | refine fa_valn rfl (by (try simp only [nfA, Nat.reduceAdd]) <;> exact rfl) ?_)
          | (refine is_pk ?_; first | refine pk_twoT rfl rfl ?_ | refine pk_twoF rfl rfl ?_ | (refine pk_case rfl ?_ ?_ <;> (intro h; subst h)))
          | (refine is_ia ?_; first | (refine ia_elt rfl ?_ (fun _ _ => ?_)))
          | (refine is_bs ?_; first | refine bs_new rfl (by (try simp only [nfA, Nat.reduceAdd]) <;> exact rfl) ?_)
          | (refine is_mi ?_; first | refine mi_val rfl ?_)
          | (refine is_bi ?_; first | (refine bi_gated rfl (by (try simp only [nfA, Nat.reduceAdd]) <;> exact rfl) ?_; intro _) | refine bi_val rfl ?_ | refine bi_own rfl (by first | rfl | (repeat (first | exact lookB_hd | refine lookB_sl rfl ?_))) ?_ ?_ | refine bi_needN rfl ?_ ?_)
          | (refine is_cf 62 ?_; first | refine cf (f62_calls _ _) rfl ⟨.inl rfl, .inl rfl, trivial⟩ ?_ | refine cf (f62_calls _ _) rfl ⟨(by first | exact .inl rfl | exact .inr (.inl rfl) | exact .inr (.inr ⟨_, _, rfl, rfl⟩)), (by first | exact .inl rfl | exact .inr (.inl rfl) | exact .inr (.inr ⟨_, _, rfl, rfl⟩)), trivial⟩ ?_))
      | refine rl_nil ?_
      | (refine is_aw ?_; first
          | refine aw_seq ?_
          | refine aw_scope ?_
          | refine aw_reg rfl ?_
          | refine aw_draw rfl ?_
          | refine aw_condT rfl ?_
          | refine aw_condF rfl ?_
          | (refine aw_condN rfl ?_ ?_ <;> (intro h; subst h))
          | (refine aw_cond rfl ?_ ?_ <;> (intro h; subst h))
          | refine aw_skip ?_
          | refine aw_ret ?_
          | refine aw_exit ?_
          | refine aw_block ?_
          | refine aw_label ?_)
      | refine tq_n ?_
      | refine ng_n ?_
      | refine ng_r ?_
      | refine ng_x ?_
      | refine ⟨(rfl : regOk _ _ = true), ?_⟩
      | refine tq_r ?_
      | refine tq_x ?_
      | refine bq_n ?_
      | refine bq_x ?_
      | refine bq_r ?_
      | refine bq_o rfl ?_
      | refine fq_r rfl ?_
      | refine fq_n rfl ?_)
  · simp only [maxLen_eq, List.length_map, decide_eq_true_eq, decide_eq_false_iff_not, Int.toNat_natCast, Bool.not_eq_true', Bool.not_eq_false', Bool.not_eq_true, Bool.not_eq_false] at *; omega
  · simp only [maxLen_eq, List.length_map, decide_eq_true_eq, decide_eq_false_iff_not, Int.toNat_natCast, Bool.not_eq_true', Bool.not_eq_false', Bool.not_eq_true, Bool.not_eq_false] at *; omega
  · rfl
  · rename_i ha hb _ x hx y hy hc
    simp only [cmp_ge] at hc
    simp only [maxLen_eq, List.length_map, decide_eq_true_eq, decide_eq_false_iff_not, Int.toNat_natCast, Bool.not_eq_true', Bool.not_eq_false', Bool.not_eq_true, Bool.not_eq_false] at *
    exfalso
    have e : ((a.length : Int) - 1).toNat = a.length - 1 := by omega
    rw [e] at hx
    simp only [Int.toNat_zero] at hy
    simp only [joinOk, List.getLast?_eq_getElem?, hx, List.head?_eq_getElem?, hy] at h
    rw [h] at hc; cases hc
  · simp only [maxLen_eq, List.length_map, decide_eq_true_eq, decide_eq_false_iff_not, Int.toNat_natCast, Bool.not_eq_true', Bool.not_eq_false', Bool.not_eq_true, Bool.not_eq_false] at *; omega
  · simp only [maxLen_eq, List.length_map, decide_eq_true_eq, decide_eq_false_iff_not, Int.toNat_natCast, Bool.not_eq_true', Bool.not_eq_false', Bool.not_eq_true, Bool.not_eq_false] at *; omega
theorem enter66 : EnterOk Try.prog 66 := EnterOk_of (fn := Try.f66) (by kernel_rfl) (by kernel_rfl) (by kernel_rfl)
theorem f66_calls (l : List Row) (a b : Row) (h2 : 2 ≤ l.length) (ha : l[l.length / 2 - 1]? = some a) (hb : l[l.length / 2]? = some b) (h : lt a.key b.key = true) (hs : l.length ≤ 999999) : CallsD Try.prog 66 [.lst 2 (ers l)] (.tup [.str (b.key.take (common a.key b.key + 1)), .lst 2 (ers (l.take (l.length / 2))), .lst 2 (ers (l.drop (l.length / 2))), .nilI]) := by
  refine CallsD_bd enter66 fun hbd => CallsD_of good mixed (fn := Try.f66) (by kernel_rfl) rfl enter66 (Nat.le_of_ble_eq_true rfl) ?_
  show AWp _ _ _ _ _ ⟨[(0, _)], [], [], 0⟩
  repeat' (first
      | (refine is_cons ?_; first
          | (refine is_as ?_; first | refine as_val rfl ?_ | refine as_new rfl rfl ?_)
          | (refine is_mv ?_; first | refine mv_val rfl ?_)
          | (refine is_bo ?_; first | refine rl_binT rfl ?_ | refine rl_binF rfl ?_ | (refine rl_binB rfl ?_; intro _ _) | (refine rl_half rfl (by (try simp only [maxLen_eq, List.length_map, decide_eq_true_eq, decide_eq_false_iff_not] at *); omega) ?_) | (refine rl_binW rfl (by (try simp only [maxLen_eq, List.length_map, decide_eq_true_eq, decide_eq_false_iff_not] at *); omega) ?_) | refine bo_val rfl ?_)
          | (refine is_ld ?_; first | refine ld_load rfl (by first | rfl | (repeat (first | exact lookM_hd | refine lookM_sl rfl ?_))) rfl (by (try simp only [nfA, Nat.reduceAdd]) <;> exact rfl) ?_ | refine ld_valn rfl (by (try simp only [nfA, Nat.reduceAdd]) <;> exact rfl) ?_)
          | (refine is_fa ?_; first | refine fa_valn rfl (by (try simp only [nfA, Nat.reduceAdd]) <;> exact rfl) ?_)
          | (refine is_ex ?_; first | (refine rl_extB rfl ?_; intro _ _) | refine ex_valn rfl (by (try simp only [nfA, Nat.reduceAdd]) <;> exact rfl) ?_)
          | (refine is_bs ?_; first | refine bs_new rfl (by (try simp only [nfA, Nat.reduceAdd]) <;> exact rfl) ?_)
          | (refine is_ia ?_; first | (refine ia_elt rfl ?_ (fun _ _ => ?_)))
          | (refine is_sl ?_; first | refine sl_need rfl (by (try simp only [nfA, Nat.reduceAdd]) <;> exact rfl) ?_ ?_)
          | (refine is_mi ?_; first | refine mi_val rfl ?_)
          | (refine is_bi ?_; first | (refine bi_gated rfl (by (try simp only [nfA, Nat.reduceAdd]) <;> exact rfl) ?_; intro _) | refine bi_val rfl ?_ | refine bi_own rfl (by first | rfl | (repeat (first | exact lookB_hd | refine lookB_sl rfl ?_))) ?_ ?_ | refine bi_needN rfl ?_ ?_))
      | refine rl_nil ?_
      | (refine is_aw ?_; first
          | refine aw_seq ?_
          | refine aw_scope ?_
          | refine aw_reg rfl ?_
          | refine aw_draw rfl ?_
          | refine aw_condT rfl ?_
          | refine aw_condF rfl ?_
          | (refine aw_condN rfl ?_ ?_ <;> (intro h; subst h))
          | (refine aw_cond rfl ?_ ?_ <;> (intro h; subst h))
          | refine aw_skip ?_
          | refine aw_ret ?_
          | refine aw_exit ?_
          | refine aw_block ?_
          | refine aw_label ?_)
      | refine tq_n ?_
      | refine ng_n ?_
      | refine ng_r ?_
      | refine ng_x ?_
      | refine ⟨(rfl : regOk _ _ = true), ?_⟩
      | refine tq_r ?_
      | refine tq_x ?_
      | refine bq_n ?_
      | refine bq_x ?_
      | refine bq_r ?_
      | refine bq_o rfl ?_
      | refine fq_r rfl ?_
      | refine fq_n rfl ?_)
  · simp only [maxLen_eq, List.length_map, decide_eq_true_eq, decide_eq_false_iff_not, Int.toNat_natCast, Bool.not_eq_true', Bool.not_eq_false', Bool.not_eq_true, Bool.not_eq_false] at *; omega
  · simp only [maxLen_eq, List.length_map, decide_eq_true_eq, decide_eq_false_iff_not, Int.toNat_natCast, Bool.not_eq_true', Bool.not_eq_false', Bool.not_eq_true, Bool.not_eq_false] at *; omega
  · simp only [maxLen_eq, List.length_map, decide_eq_true_eq, decide_eq_false_iff_not, Int.toNat_natCast, Bool.not_eq_true', Bool.not_eq_false', Bool.not_eq_true, Bool.not_eq_false] at *; omega
  · rename_i x hx y hy
    have e : ((l.length / 2 : Nat) - 1 : Int).toNat = l.length / 2 - 1 := by omega
    rw [e, ha] at hx
    simp only [Int.toNat_natCast] at hy
    rw [hb] at hy
    cases hx; cases hy
    repeat' (first
        | (refine is_cons ?_; first
            | (refine is_as ?_; first | refine as_val rfl ?_ | refine as_new rfl rfl ?_)
            | (refine is_mv ?_; first | refine mv_val rfl ?_)
            | (refine is_bo ?_; first | refine rl_binT rfl ?_ | refine rl_binF rfl ?_ | (refine rl_binB rfl ?_; intro _ _) | (refine rl_half rfl (by (try simp only [maxLen_eq, List.length_map, decide_eq_true_eq, decide_eq_false_iff_not] at *); omega) ?_) | (refine rl_binW rfl (by (try simp only [maxLen_eq, List.length_map, decide_eq_true_eq, decide_eq_false_iff_not] at *); omega) ?_) | refine bo_val rfl ?_)
            | (refine is_ld ?_; first | refine ld_load rfl (by first | rfl | (repeat (first | exact lookM_hd | refine lookM_sl rfl ?_))) rfl (by (try simp only [nfA, Nat.reduceAdd]) <;> exact rfl) ?_ | refine ld_valn rfl (by (try simp only [nfA, Nat.reduceAdd]) <;> exact rfl) ?_)
            | (refine is_fa ?_; first | refine fa_valn rfl (by (try simp only [nfA, Nat.reduceAdd]) <;> exact rfl) ?_)
            | (refine is_ex ?_; first | (refine rl_extB rfl ?_; intro _ _) | refine ex_valn rfl (by (try simp only [nfA, Nat.reduceAdd]) <;> exact rfl) ?_)
            | (refine is_bs ?_; first | refine bs_new rfl (by (try simp only [nfA, Nat.reduceAdd]) <;> exact rfl) ?_)
            | (refine is_ia ?_; first | (refine ia_elt rfl ?_ (fun _ _ => ?_)))
            | (refine is_sl ?_; first | refine sl_need rfl (by (try simp only [nfA, Nat.reduceAdd]) <;> exact rfl) ?_ ?_)
            | (refine is_mi ?_; first | refine mi_val rfl ?_)
            | (refine is_bi ?_; first | (refine bi_gated rfl (by (try simp only [nfA, Nat.reduceAdd]) <;> exact rfl) ?_; intro _) | refine bi_val rfl ?_ | refine bi_own rfl (by first | rfl | (repeat (first | exact lookB_hd | refine lookB_sl rfl ?_))) ?_ ?_ | refine bi_needN rfl ?_ ?_)
            | (refine is_cf 89 ?_; first | refine cf (f89_calls_ok _ _ h) rfl ⟨.inl rfl, .inl rfl, trivial⟩ ?_ | refine cf (f89_calls_ok _ _ h) rfl ⟨(by first | exact .inl rfl | exact .inr (.inl rfl) | exact .inr (.inr ⟨_, _, rfl, rfl⟩)), (by first | exact .inl rfl | exact .inr (.inl rfl) | exact .inr (.inr ⟨_, _, rfl, rfl⟩)), trivial⟩ ?_)
            | (refine is_cf 69 ?_; first | refine cf (f69_calls [l.take (l.length / 2)] (by simp; omega)) rfl ⟨.inl rfl, trivial⟩ ?_ | refine cf (f69_calls [l.take (l.length / 2)] (by simp; omega)) rfl ⟨(by first | exact .inl rfl | exact .inr (.inl rfl) | exact .inr (.inr ⟨_, _, rfl, rfl⟩)), trivial⟩ ?_)
            | (refine is_cf 69 ?_; first | refine cf (f69_calls [l.drop (l.length / 2)] (by simp; omega)) rfl ⟨.inl rfl, trivial⟩ ?_ | refine cf (f69_calls [l.drop (l.length / 2)] (by simp; omega)) rfl ⟨(by first | exact .inl rfl | exact .inr (.inl rfl) | exact .inr (.inr ⟨_, _, rfl, rfl⟩)), trivial⟩ ?_))
        | refine rl_nil ?_
        | (refine is_aw ?_; first
            | refine aw_seq ?_
            | refine aw_scope ?_
            | refine aw_reg rfl ?_
            | refine aw_draw rfl ?_
            | refine aw_condT rfl ?_
            | refine aw_condF rfl ?_
            | (refine aw_condN rfl ?_ ?_ <;> (intro h; subst h))
            | (refine aw_cond rfl ?_ ?_ <;> (intro h; subst h))
            | refine aw_skip ?_
            | refine aw_ret ?_
            | refine aw_exit ?_
            | refine aw_block ?_
            | refine aw_label ?_)
        | refine tq_n ?_
        | refine ng_n ?_
        | refine ng_r ?_
        | refine ng_x ?_
        | refine ⟨(rfl : regOk _ _ = true), ?_⟩
        | refine tq_r ?_
        | refine tq_x ?_
        | refine bq_n ?_
        | refine bq_x ?_
        | refine bq_r ?_
        | refine bq_o rfl ?_
        | refine fq_r rfl ?_
        | refine fq_n rfl ?_)
    · simp only [maxLen_eq, List.length_map, decide_eq_true_eq, decide_eq_false_iff_not, Int.toNat_natCast, Bool.not_eq_true', Bool.not_eq_false', Bool.not_eq_true, Bool.not_eq_false] at *; omega
    · simp only [maxLen_eq, List.length_map, decide_eq_true_eq, decide_eq_false_iff_not, Int.toNat_natCast, Bool.not_eq_true', Bool.not_eq_false', Bool.not_eq_true, Bool.not_eq_false] at *; omega
    · simp [normD, norm1]
theorem f66_calls_few (l : List Row) (h2 : l.length < 2) : CallsD Try.prog 66 [.lst 2 (ers l)] (.tup [.str [], .lst 2 [], .lst 2 [], EE 2]) := by
  refine CallsD_bd enter66 fun hbd => CallsD_of good mixed (fn := Try.f66) (by kernel_rfl) rfl enter66 (Nat.le_of_ble_eq_true rfl) ?_
  show AWp _ _ _ _ _ ⟨[(0, _)], [], [], 0⟩
  repeat' (first
      | (refine is_cons ?_; first
          | (refine is_as ?_; first | refine as_val rfl ?_ | refine as_new rfl rfl ?_)
          | (refine is_mv ?_; first | refine mv_val rfl ?_)
          | (refine is_bo ?_; first | refine rl_binT rfl ?_ | refine rl_binF rfl ?_ | (refine rl_binB rfl ?_; intro _ _) | (refine rl_half rfl (by (try simp only [maxLen_eq, List.length_map, decide_eq_true_eq, decide_eq_false_iff_not] at *); omega) ?_) | (refine rl_binW rfl (by (try simp only [maxLen_eq, List.length_map, decide_eq_true_eq, decide_eq_false_iff_not] at *); omega) ?_) | refine bo_val rfl ?_)
          | (refine is_ld ?_; first | refine ld_load rfl (by first | rfl | (repeat (first | exact lookM_hd | refine lookM_sl rfl ?_))) rfl (by (try simp only [nfA, Nat.reduceAdd]) <;> exact rfl) ?_ | refine ld_valn rfl (by (try simp only [nfA, Nat.reduceAdd]) <;> exact rfl) ?_)
          | (refine is_fa ?_; first | refine fa_valn rfl (by (try simp only [nfA, Nat.reduceAdd]) <;> exact rfl) ?_)
          | (refine is_ex ?_; first | (refine rl_extB rfl ?_; intro _ _) | refine ex_valn rfl (by (try simp only [nfA, Nat.reduceAdd]) <;> exact rfl) ?_)
          | (refine is_bs ?_; first | refine bs_new rfl (by (try simp only [nfA, Nat.reduceAdd]) <;> exact rfl) ?_)
          | (refine is_ia ?_; first | (refine ia_elt rfl ?_ (fun _ _ => ?_)))
          | (refine is_sl ?_; first | refine sl_need rfl (by (try simp only [nfA, Nat.reduceAdd]) <;> exact rfl) ?_ ?_)
          | (refine is_mi ?_; first | refine mi_val rfl ?_)
          | (refine is_bi ?_; first | (refine bi_gated rfl (by (try simp only [nfA, Nat.reduceAdd]) <;> exact rfl) ?_; intro _) | refine bi_val rfl ?_ | refine bi_own rfl (by first | rfl | (repeat (first | exact lookB_hd | refine lookB_sl rfl ?_))) ?_ ?_ | refine bi_needN rfl ?_ ?_))
      | refine rl_nil ?_
      | (refine is_aw ?_; first
          | refine aw_seq ?_
          | refine aw_scope ?_
          | refine aw_reg rfl ?_
          | refine aw_draw rfl ?_
          | refine aw_condT rfl ?_
          | refine aw_condF rfl ?_
          | (refine aw_condN rfl ?_ ?_ <;> (intro h; subst h))
          | (refine aw_cond rfl ?_ ?_ <;> (intro h; subst h))
          | refine aw_skip ?_
          | refine aw_ret ?_
          | refine aw_exit ?_
          | refine aw_block ?_
          | refine aw_label ?_)
      | refine tq_n ?_
      | refine ng_n ?_
      | refine ng_r ?_
      | refine ng_x ?_
      | refine ⟨(rfl : regOk _ _ = true), ?_⟩
      | refine tq_r ?_
      | refine tq_x ?_
      | refine bq_n ?_
      | refine bq_x ?_
      | refine bq_r ?_
      | refine bq_o rfl ?_
      | refine fq_r rfl ?_
      | refine fq_n rfl ?_)
  · rfl
  · simp only [maxLen_eq, List.length_map, decide_eq_true_eq, decide_eq_false_iff_not, Int.toNat_natCast, Bool.not_eq_true', Bool.not_eq_false', Bool.not_eq_true, Bool.not_eq_false] at *; omega
  · simp only [maxLen_eq, List.length_map, decide_eq_true_eq, decide_eq_false_iff_not, Int.toNat_natCast, Bool.not_eq_true', Bool.not_eq_false', Bool.not_eq_true, Bool.not_eq_false] at *; omega
  · simp only [maxLen_eq, List.length_map, decide_eq_true_eq, decide_eq_false_iff_not, Int.toNat_natCast, Bool.not_eq_true', Bool.not_eq_false', Bool.not_eq_true, Bool.not_eq_false] at *; omega
theorem f66_calls_no (l : List Row) (a b : Row) (h2 : 2 ≤ l.length) (ha : l[l.length / 2 - 1]? = some a) (hb : l[l.length / 2]? = some b) (h : lt a.key b.key = false) : CallsD Try.prog 66 [.lst 2 (ers l)] (.tup [.str [], .lst 2 [], .lst 2 [], EE 1]) := by
  refine CallsD_bd enter66 fun hbd => CallsD_of good mixed (fn := Try.f66) (by kernel_rfl) rfl enter66 (Nat.le_of_ble_eq_true rfl) ?_
  show AWp _ _ _ _ _ ⟨[(0, _)], [], [], 0⟩
  repeat' (first
      | (refine is_cons ?_; first
          | (refine is_as ?_; first | refine as_val rfl ?_ | refine as_new rfl rfl ?_)
          | (refine is_mv ?_; first | refine mv_val rfl ?_)
          | (refine is_bo ?_; first | refine rl_binT rfl ?_ | refine rl_binF rfl ?_ | (refine rl_binB rfl ?_; intro _ _) | (refine rl_half rfl (by (try simp only [maxLen_eq, List.length_map, decide_eq_true_eq, decide_eq_false_iff_not] at *); omega) ?_) | (refine rl_binW rfl (by (try simp only [maxLen_eq, List.length_map, decide_eq_true_eq, decide_eq_false_iff_not] at *); omega) ?_) | refine bo_val rfl ?_)
          | (refine is_ld ?_; first | refine ld_load rfl (by first | rfl | (repeat (first | exact lookM_hd | refine lookM_sl rfl ?_))) rfl (by (try simp only [nfA, Nat.reduceAdd]) <;> exact rfl) ?_ | refine ld_valn rfl (by (try simp only [nfA, Nat.reduceAdd]) <;> exact rfl) ?_)
          | (refine is_fa ?_; first | refine fa_valn rfl (by (try simp only [nfA, Nat.reduceAdd]) <;> exact rfl) ?_)
          | (refine is_ex ?_; first | (refine rl_extB rfl ?_; intro _ _) | refine ex_valn rfl (by (try simp only [nfA, Nat.reduceAdd]) <;> exact rfl) ?_)
          | (refine is_bs ?_; first | refine bs_new rfl (by (try simp only [nfA, Nat.reduceAdd]) <;> exact rfl) ?_)
          | (refine is_ia ?_; first | (refine ia_elt rfl ?_ (fun _ _ => ?_)))
          | (refine is_sl ?_; first | refine sl_need rfl (by (try simp only [nfA, Nat.reduceAdd]) <;> exact rfl) ?_ ?_)
          | (refine is_mi ?_; first | refine mi_val rfl ?_)
          | (refine is_bi ?_; first | (refine bi_gated rfl (by (try simp only [nfA, Nat.reduceAdd]) <;> exact rfl) ?_; intro _) | refine bi_val rfl ?_ | refine bi_own rfl (by first | rfl | (repeat (first | exact lookB_hd | refine lookB_sl rfl ?_))) ?_ ?_ | refine bi_needN rfl ?_ ?_))
      | refine rl_nil ?_
      | (refine is_aw ?_; first
          | refine aw_seq ?_
          | refine aw_scope ?_
          | refine aw_reg rfl ?_
          | refine aw_draw rfl ?_
          | refine aw_condT rfl ?_
          | refine aw_condF rfl ?_
          | (refine aw_condN rfl ?_ ?_ <;> (intro h; subst h))
          | (refine aw_cond rfl ?_ ?_ <;> (intro h; subst h))
          | refine aw_skip ?_
          | refine aw_ret ?_
          | refine aw_exit ?_
          | refine aw_block ?_
          | refine aw_label ?_)
      | refine tq_n ?_
      | refine ng_n ?_
      | refine ng_r ?_
      | refine ng_x ?_
      | refine ⟨(rfl : regOk _ _ = true), ?_⟩
      | refine tq_r ?_
      | refine tq_x ?_
      | refine bq_n ?_
      | refine bq_x ?_
      | refine bq_r ?_
      | refine bq_o rfl ?_
      | refine fq_r rfl ?_
      | refine fq_n rfl ?_)
  · simp only [maxLen_eq, List.length_map, decide_eq_true_eq, decide_eq_false_iff_not, Int.toNat_natCast, Bool.not_eq_true', Bool.not_eq_false', Bool.not_eq_true, Bool.not_eq_false] at *; omega
  · simp only [maxLen_eq, List.length_map, decide_eq_true_eq, decide_eq_false_iff_not, Int.toNat_natCast, Bool.not_eq_true', Bool.not_eq_false', Bool.not_eq_true, Bool.not_eq_false] at *; omega
  · simp only [maxLen_eq, List.length_map, decide_eq_true_eq, decide_eq_false_iff_not, Int.toNat_natCast, Bool.not_eq_true', Bool.not_eq_false', Bool.not_eq_true, Bool.not_eq_false] at *; omega
  · rename_i x hx y hy
    have e : ((l.length / 2 : Nat) - 1 : Int).toNat = l.length / 2 - 1 := by omega
    rw [e, ha] at hx
    simp only [Int.toNat_natCast] at hy
    rw [hb] at hy
    cases hx; cases hy
    repeat' (first
        | (refine is_cons ?_; first
            | (refine is_as ?_; first | refine as_val rfl ?_ | refine as_new rfl rfl ?_)
            | (refine is_mv ?_; first | refine mv_val rfl ?_)
            | (refine is_bo ?_; first | refine rl_binT rfl ?_ | refine rl_binF rfl ?_ | (refine rl_binB rfl ?_; intro _ _) | (refine rl_half rfl (by (try simp only [maxLen_eq, List.length_map, decide_eq_true_eq, decide_eq_false_iff_not] at *); omega) ?_) | (refine rl_binW rfl (by (try simp only [maxLen_eq, List.length_map, decide_eq_true_eq, decide_eq_false_iff_not] at *); omega) ?_) | refine bo_val rfl ?_)
            | (refine is_ld ?_; first | refine ld_load rfl (by first | rfl | (repeat (first | exact lookM_hd | refine lookM_sl rfl ?_))) rfl (by (try simp only [nfA, Nat.reduceAdd]) <;> exact rfl) ?_ | refine ld_valn rfl (by (try simp only [nfA, Nat.reduceAdd]) <;> exact rfl) ?_)
            | (refine is_fa ?_; first | refine fa_valn rfl (by (try simp only [nfA, Nat.reduceAdd]) <;> exact rfl) ?_)
            | (refine is_ex ?_; first | (refine rl_extB rfl ?_; intro _ _) | refine ex_valn rfl (by (try simp only [nfA, Nat.reduceAdd]) <;> exact rfl) ?_)
            | (refine is_bs ?_; first | refine bs_new rfl (by (try simp only [nfA, Nat.reduceAdd]) <;> exact rfl) ?_)
            | (refine is_ia ?_; first | (refine ia_elt rfl ?_ (fun _ _ => ?_)))
            | (refine is_sl ?_; first | refine sl_need rfl (by (try simp only [nfA, Nat.reduceAdd]) <;> exact rfl) ?_ ?_)
            | (refine is_mi ?_; first | refine mi_val rfl ?_)
            | (refine is_bi ?_; first | (refine bi_gated rfl (by (try simp only [nfA, Nat.reduceAdd]) <;> exact rfl) ?_; intro _) | refine bi_val rfl ?_ | refine bi_own rfl (by first | rfl | (repeat (first | exact lookB_hd | refine lookB_sl rfl ?_))) ?_ ?_ | refine bi_needN rfl ?_ ?_)
            | (refine is_cf 89 ?_; first | refine cf (f89_calls_no _ _ h) rfl ⟨.inl rfl, .inl rfl, trivial⟩ ?_ | refine cf (f89_calls_no _ _ h) rfl ⟨(by first | exact .inl rfl | exact .inr (.inl rfl) | exact .inr (.inr ⟨_, _, rfl, rfl⟩)), (by first | exact .inl rfl | exact .inr (.inl rfl) | exact .inr (.inr ⟨_, _, rfl, rfl⟩)), trivial⟩ ?_))
        | refine rl_nil ?_
        | (refine is_aw ?_; first
            | refine aw_seq ?_
            | refine aw_scope ?_
            | refine aw_reg rfl ?_
            | refine aw_draw rfl ?_
            | refine aw_condT rfl ?_
            | refine aw_condF rfl ?_
            | (refine aw_condN rfl ?_ ?_ <;> (intro h; subst h))
            | (refine aw_cond rfl ?_ ?_ <;> (intro h; subst h))
            | refine aw_skip ?_
            | refine aw_ret ?_
            | refine aw_exit ?_
            | refine aw_block ?_
            | refine aw_label ?_)
        | refine tq_n ?_
        | refine ng_n ?_
        | refine ng_r ?_
        | refine ng_x ?_
        | refine ⟨(rfl : regOk _ _ = true), ?_⟩
        | refine tq_r ?_
        | refine tq_x ?_
        | refine bq_n ?_
        | refine bq_x ?_
        | refine bq_r ?_
        | refine bq_o rfl ?_
        | refine fq_r rfl ?_
        | refine fq_n rfl ?_)
    rfl
end Go.Proofs.Ytehhgamkijkjgaa.AM.TT
