/- Contracts of the functions and their models, by the abstract machine. -/
import Derived.Test.YtbeafnkcimfeeaaDoorPfH7
import Derived.Test.YtbeafnkcimfeeaaDoorAm3
namespace Go.Proofs.YtbeafnkcimfeeaaDoor.AM.TT
set_option linter.unusedVariables false
set_option linter.unusedSimpArgs false
open Go Go.Proofs.YtbeafnkcimfeeaaDoor.AM Go.Proofs
set_option linter.unusedSimpArgs false
set_option linter.unusedVariables false
set_option maxHeartbeats 1000000
attribute [local irreducible] RunL AWp StepK OpK thenQ blockQ noGotoQ fnQ fnEQ
theorem f67_acc (p : List (List Row)) (hs : p.flatten.length ≤ 1000000) (hp : p.length ≤ 1000) (d ep : Nat) : CallE Tryd.prog 67 [.dat (.lst 1 (p.map er1))] [] d ep { val := .acc (d, 0, ep) 2 (ers p.flatten), nw := [0], rd := [] } := by
  refine CallE_can good mixed (args0 := [.dat (.lst 1 (p.map er1))]) (mem0 := []) (lv0 := []) (kept := []) (drop := []) [] (fn := Tryd.f67) (by kernel_rfl) rfl enter67 (Nat.le_of_ble_eq_true rfl) rfl (by simp) rfl rfl rfl rfl rfl rfl rfl rfl rfl ?_
  simp only [initP, List.map_cons, List.map_nil]
  repeat' (first | (refine is_cons ?_; first | (refine is_mv ?_; first | refine mv_val rfl ?_) | (refine is_as ?_; first | refine as_val rfl ?_ | refine as_new rfl rfl ?_) | (refine is_bo ?_; first | refine rl_binT rfl ?_ | refine rl_binF rfl ?_ | (refine rl_binB rfl ?_; intro _ _) | (refine rl_half rfl (by (try simp only [maxLen_eq, List.length_map, decide_eq_true_eq, decide_eq_false_iff_not] at *); omega) ?_) | (refine rl_binW rfl (by (try simp only [maxLen_eq, List.length_map, decide_eq_true_eq, decide_eq_false_iff_not] at *); omega) ?_) | refine bo_val rfl ?_) | (refine is_ld ?_; first | refine ld_load rfl (by first | rfl | (repeat (first | exact lookM_hd | refine lookM_sl rfl ?_))) rfl (by (try simp only [nfA, T_md, Nat.reduceAdd]) <;> apply rfl) ?_ | refine ld_valn rfl (by (try simp only [nfA, T_md, Nat.reduceAdd]) <;> apply rfl) ?_) | (refine is_ia ?_; first | (refine ia_elt rfl ?_ (fun _ _ => ?_))) | (refine is_bi ?_; first | (refine bi_gated rfl (by (try simp only [nfA, T_md, Nat.reduceAdd]) <;> apply rfl) ?_; intro _) | refine bi_val rfl ?_ | refine bi_own rfl (by first | rfl | (repeat (first | exact lookB_hd | refine lookB_sl rfl ?_))) ?_ ?_ | refine bi_needN rfl ?_ ?_)) | refine rl_nil ?_ | (refine is_aw ?_; first | refine aw_seq ?_ | refine aw_scope ?_ | refine aw_reg rfl ?_ | refine aw_draw rfl ?_ | refine aw_condT rfl ?_ | refine aw_condF rfl ?_ | (refine aw_condN rfl ?_ ?_ <;> (intro h; subst h)) | (refine aw_cond rfl ?_ ?_ <;> (intro h; subst h)) | refine aw_skip ?_ | refine aw_ret ?_ | refine aw_exit ?_ | refine aw_block ?_ | refine aw_label ?_) | refine tq_n ?_ | refine ng_n ?_ | refine ng_r ?_ | refine ng_x ?_ | refine ⟨(rfl : regOk _ _ = true), ?_⟩ | refine tq_r ?_ | refine tq_x ?_ | refine bq_n ?_ | refine bq_x ?_ | refine bq_r ?_ | refine bq_o rfl ?_ | refine fq_r rfl ?_ | refine fq_n rfl ?_)
  refine aw_loopX (fun (x : Nat × Key) e => ⟨[(8, .dat (I x.1)), (7, .dat (I p.length)), (6, .dat (.lst 1 (p.map er1))), (3, .acc x.2 2 (ers (p.take x.1).flatten))], [], [(x.2, true)], e⟩) (fun x => x.1 ≤ p.length) (fun x => p.length - x.1) (0, (3, 0, 2)) _ (le_of ⟨rfl, by simp [lookE], rfl, rfl, trivial⟩ trivial ⟨rfl, trivial⟩ (Nat.le_refl _)) (by simp) ?_
  rintro ⟨n, τ⟩ e hn
  dsimp only at hn ⊢
  repeat' (first | (refine is_cons ?_; first | (refine is_mv ?_; first | refine mv_val rfl ?_) | (refine is_as ?_; first | refine as_val rfl ?_ | refine as_new rfl rfl ?_) | (refine is_bo ?_; first | refine rl_binT rfl ?_ | refine rl_binF rfl ?_ | (refine rl_binB rfl ?_; intro _ _) | (refine rl_half rfl (by (try simp only [maxLen_eq, List.length_map, decide_eq_true_eq, decide_eq_false_iff_not] at *); omega) ?_) | (refine rl_binW rfl (by (try simp only [maxLen_eq, List.length_map, decide_eq_true_eq, decide_eq_false_iff_not] at *); omega) ?_) | refine bo_val rfl ?_) | (refine is_ld ?_; first | refine ld_load rfl (by first | rfl | (repeat (first | exact lookM_hd | refine lookM_sl rfl ?_))) rfl (by (try simp only [nfA, T_md, Nat.reduceAdd]) <;> apply rfl) ?_ | refine ld_valn rfl (by (try simp only [nfA, T_md, Nat.reduceAdd]) <;> apply rfl) ?_) | (refine is_ia ?_; first | (refine ia_elt rfl ?_ (fun _ _ => ?_))) | (refine is_bi ?_; first | (refine bi_gated rfl (by (try simp only [nfA, T_md, Nat.reduceAdd]) <;> apply rfl) ?_; intro _) | refine bi_val rfl ?_ | refine bi_own rfl (by first | rfl | (repeat (first | exact lookB_hd | refine lookB_sl rfl ?_))) ?_ ?_ | refine bi_needN rfl ?_ ?_)) | refine rl_nil ?_ | (refine is_aw ?_; first | refine aw_seq ?_ | refine aw_scope ?_ | refine aw_reg rfl ?_ | refine aw_draw rfl ?_ | refine aw_condT rfl ?_ | refine aw_condF rfl ?_ | (refine aw_condN rfl ?_ ?_ <;> (intro h; subst h)) | (refine aw_cond rfl ?_ ?_ <;> (intro h; subst h)) | refine aw_skip ?_ | refine aw_ret ?_ | refine aw_exit ?_ | refine aw_block ?_ | refine aw_label ?_) | refine tq_n ?_ | refine ng_n ?_ | refine ng_r ?_ | refine ng_x ?_ | refine ⟨(rfl : regOk _ _ = true), ?_⟩ | refine tq_r ?_ | refine tq_x ?_ | refine bq_n ?_ | refine bq_x ?_ | refine bq_r ?_ | refine bq_o rfl ?_ | refine fq_r rfl ?_ | refine fq_n rfl ?_)
  · simp only [maxLen_eq, List.length_map, decide_eq_true_eq, decide_eq_false_iff_not, Int.toNat_natCast, Bool.not_eq_true', Bool.not_eq_false', Bool.not_eq_true, Bool.not_eq_false] at *; omega
  · rename_i hl x hx
    simp only [Int.toNat_natCast] at hx
    have h1 := flatten_le p (n + 1)
    rw [take_flatten hx] at h1
    simp only [List.length_append, List.length_map, maxLen_eq] at *
    omega
  · rename_i hl x hx
    simp only [Int.toNat_natCast, decide_eq_true_eq] at hx hl
    exact ⟨(n + 1, (14, 0, _)), _, by dsimp only; omega, le_of ⟨rfl, rfl, rfl, by dsimp only; rw [take_flatten hx]; simp only [ers, List.map_append]; rfl, trivial⟩ trivial ⟨lookB_hd, trivial⟩ (Nat.le_refl _), by dsimp only; omega⟩
  · rename_i hl
    simp only [maxLen_eq, List.length_map, decide_eq_true_eq, decide_eq_false_iff_not, Int.toNat_natCast, Bool.not_eq_true', Bool.not_eq_false', Bool.not_eq_true, Bool.not_eq_false] at *
    have : n = p.length := by omega
    subst this
    trace_state
    refine eq_r ⟨_, [], [(τ, 0)], .inr rfl, ?_, trivial, trivial, rfl, ⟨lookB_hd, trivial⟩, by simp, by simp, by simp⟩
    simp [ren, kout, fout]
end Go.Proofs.YtbeafnkcimfeeaaDoor.AM.TT
