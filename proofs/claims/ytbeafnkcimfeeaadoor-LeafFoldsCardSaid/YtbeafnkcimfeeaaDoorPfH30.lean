/- Contracts of the functions and their models, by the abstract machine. -/
import Derived.Test.YtbeafnkcimfeeaaDoorPfH29
import Derived.Test.YtbeafnkcimfeeaaDoorPfModz
-- tt
namespace Go.Proofs.YtbeafnkcimfeeaaDoor.AM.TT
set_option linter.unusedVariables false
set_option linter.unusedSimpArgs false
open Go Go.Proofs.YtbeafnkcimfeeaaDoor.AM Go.Proofs
set_option linter.unusedSimpArgs false
set_option linter.unusedVariables false
set_option maxHeartbeats 2000000
attribute [local irreducible] RunL AWp StepK OpK thenQ blockQ noGotoQ fnQ fnEQ
def encRF (x : Except Int LView) : DV := match x with | .ok w => .tup [.agg (ev w), I 0] | .error c => .tup [.agg (ev noView), I c]
def cellsV (v : LView) (c : Option Key) : List PV := [.dat (.str v.low), .dat (.str v.high), .dat (.bool v.unb), .dat (I v.right), (match c with | none => .dat (.lst 2 (ers v.rows)) | some t => .acc t 2 (ers v.rows)), .dat (.bool v.gone)]
theorem ex_mk {α : Type} {P : α → Nat → Prop} (y : α) (e' : Nat) (h : P y e') : ∃ y e', P y e' := ⟨y, e', h⟩
theorem lk_int {env : List (Nat × PV)} {n : Nat} {k : IntKind} {a b : Int} (h : lookE env n = some (.dat (.int k a))) (e : a = b) : lookE env n = some (.dat (.int k b)) := by rw [h, e]
theorem cells_app (lo hi : Str) (un : Bool) (ri : Int) (a b : List Row) (g : Bool) (t : Key) : [PV.dat (.str lo), .dat (.str hi), .dat (.bool un), .dat (I ri), .acc t 2 ([] ++ ers a ++ ers b), .dat (.bool g)] = cellsV ⟨lo, hi, un, ri, a ++ b, g⟩ (some t) := by simp [cellsV, ers]
theorem lk_bool {env : List (Nat × PV)} {n : Nat} {b b' : Bool} (h : lookE env n = some (.dat (.bool b))) (e : b = b') : lookE env n = some (.dat (.bool b')) := by rw [h, e]
theorem lk_mem {mem : List (Key × List PV)} {k : Key} {cs cs' : List PV} (h : lookM mem k = some cs) (e : cs = cs') : lookM mem k = some cs' := by rw [h, e]
abbrev zeroW : List PV := [.dat (.str []), .dat (.str []), .dat (.bool false), .dat (I 0), .dat (.nil 2), .dat (.bool false)]
theorem enter11 : EnterOk Tryd.prog 11 := EnterOk_of (fn := Tryd.f11) (by kernel_rfl) (by kernel_rfl) (by kernel_rfl)
theorem f11_calls (l : List Rec) (hs : szL l l.length ≤ 900000) : CallsD Tryd.prog 11 [.lst 15 (ecs l)] (encRF (foldL l)) := by
  refine CallsD_bd enter11 fun hbd => CallsD_of good mixed (fn := Tryd.f11) (by kernel_rfl) rfl enter11 (Nat.le_of_ble_eq_true rfl) ?_
  show AWp _ _ _ _ _ ⟨[(0, _)], [], [], 0⟩
  have hln := szL_len l
  repeat' (first | (refine is_cons ?_; first | (refine is_g ?_; first | refine rl_on rfl rfl ?_ | refine rl_off rfl rfl ?_ | refine rl_offU rfl ?_ | (refine rl_case rfl ?_ ?_ <;> (intro h; first | subst h | (simp only [Bool.not_eq_true', Bool.not_eq_false'] at h; subst h)))) | (refine is_fa ?_; first | refine fa_valn rfl (by (try simp only [nfA, T_md, Nat.reduceAdd]) <;> apply rfl) ?_) | (refine is_ld ?_; first | refine ld_load rfl (by first | refine lookM_hd | exact lookM_sl rfl lookM_hd | (repeat (first | refine lookM_hd | refine lookM_sl rfl ?_))) rfl (by (try simp only [nfA, T_md, Nat.reduceAdd]) <;> apply rfl) ?_ | refine ld_valn rfl (by (try simp only [nfA, T_md, Nat.reduceAdd]) <;> apply rfl) ?_) | (refine is_mv ?_; first | refine mv_val rfl ?_) | (refine is_bo ?_; first | refine rl_binT rfl ?_ | refine rl_binF rfl ?_ | (refine rl_binB rfl ?_; intro _ _) | (refine rl_half rfl (by (try simp only [maxLen_eq, List.length_map, decide_eq_true_eq, decide_eq_false_iff_not] at *); omega) ?_) | (refine rl_binW rfl (by (try simp only [maxLen_eq, List.length_map, decide_eq_true_eq, decide_eq_false_iff_not] at *); omega) ?_) | refine bo_val rfl ?_) | (refine is_st ?_; first | refine st_store rfl (by first | refine lookM_hd | exact lookM_sl rfl lookM_hd | (repeat (first | refine lookM_hd | refine lookM_sl rfl ?_))) rfl (by (try simp only [nfA, T_md, Nat.reduceAdd]) <;> apply rfl) ?_) | (refine is_as ?_; first | refine as_val rfl ?_ | refine as_new rfl rfl ?_) | (refine is_pk ?_; first | refine pk_twoT rfl rfl ?_ | refine pk_twoF rfl rfl ?_ | (refine pk_case rfl ?_ ?_ <;> (intro h; subst h))) | (refine is_bd ?_; first | refine bd_valn rfl (by (try simp only [nfA, T_md, Nat.reduceAdd]) <;> apply rfl) ?_) | (refine is_ia ?_; first | (refine ia_elt rfl ?_ (fun _ _ => ?_))) | (refine is_al ?_; first | refine al_alloc rfl (by (try simp only [nfA, T_md, Nat.reduceAdd]) <;> apply rfl) ?_) | (refine is_ex ?_; first | (refine rl_extB rfl ?_; intro _ _) | refine ex_valn rfl (by (try simp only [nfA, T_md, Nat.reduceAdd]) <;> apply rfl) ?_) | (refine is_uo ?_; first | refine uo_val rfl ?_) | (refine is_bs ?_; first | refine bs_new rfl (by (try simp only [nfA, T_md, Nat.reduceAdd]) <;> apply rfl) ?_) | (refine is_bi ?_; first | refine bi_val rfl ?_ | refine bi_own rfl (by first | refine lookB_hd | exact lookB_tt lookB_hd | (repeat (first | refine lookB_hd | refine lookB_sl rfl ?_))) ?_ ?_ | refine bi_needN rfl ?_ ?_ | (refine bi_gated rfl (by (try simp only [nfA, T_md, Nat.reduceAdd]) <;> apply rfl) ?_; intro _))) | refine rl_nil ?_ | (refine is_aw ?_; first | refine aw_seq ?_ | refine aw_scope ?_ | refine aw_reg rfl ?_ | refine aw_draw rfl ?_ | refine aw_condT rfl ?_ | refine aw_condF rfl ?_ | (refine aw_condN rfl ?_ ?_ <;> (intro h; subst h)) | (refine aw_cond rfl ?_ ?_ <;> (intro h; subst h)) | refine aw_skip ?_ | refine aw_ret ?_ | refine aw_exit ?_ | refine aw_block ?_ | refine aw_label ?_) | refine tq_n ?_ | refine ng_n ?_ | refine ng_r ?_ | refine ng_x ?_ | refine ⟨(rfl : regOk _ _ = true), ?_⟩ | refine tq_r ?_ | refine tq_x ?_ | refine bq_n ?_ | refine bq_x ?_ | refine bq_r ?_ | refine bq_o rfl ?_ | refine fq_r rfl ?_ | refine fq_n rfl ?_)
  refine aw_loopX (fun (n : Nat) e => ⟨[(4, .dat (I n)), (0, .dat (.lst 15 (ecs l))), (2, .ptr (2, 0, 1) 0)], [((2, 0, 1), zeroW)], [], e⟩) (fun n => n ≤ l.length ∧ ∀ j, j < n → kindL (l.getD j default) = true) (fun n => l.length - n) 0 _ (le_of ⟨rfl, rfl, rfl, trivial⟩ ⟨rfl, trivial⟩ trivial (Nat.le_refl _)) (by simp) ?_
  rintro n e ⟨hn, hk⟩
  repeat' (first | (refine is_cons ?_; first | (refine is_g ?_; first | refine rl_on rfl rfl ?_ | refine rl_off rfl rfl ?_ | refine rl_offU rfl ?_ | (refine rl_case rfl ?_ ?_ <;> (intro h; first | subst h | (simp only [Bool.not_eq_true', Bool.not_eq_false'] at h; subst h)))) | (refine is_fa ?_; first | refine fa_valn rfl (by (try simp only [nfA, T_md, Nat.reduceAdd]) <;> apply rfl) ?_) | (refine is_ld ?_; first | refine ld_load rfl (by first | refine lookM_hd | exact lookM_sl rfl lookM_hd | (repeat (first | refine lookM_hd | refine lookM_sl rfl ?_))) rfl (by (try simp only [nfA, T_md, Nat.reduceAdd]) <;> apply rfl) ?_ | refine ld_valn rfl (by (try simp only [nfA, T_md, Nat.reduceAdd]) <;> apply rfl) ?_) | (refine is_mv ?_; first | refine mv_val rfl ?_) | (refine is_bo ?_; first | refine rl_binT rfl ?_ | refine rl_binF rfl ?_ | (refine rl_binB rfl ?_; intro _ _) | (refine rl_half rfl (by (try simp only [maxLen_eq, List.length_map, decide_eq_true_eq, decide_eq_false_iff_not] at *); omega) ?_) | (refine rl_binW rfl (by (try simp only [maxLen_eq, List.length_map, decide_eq_true_eq, decide_eq_false_iff_not] at *); omega) ?_) | refine bo_val rfl ?_) | (refine is_st ?_; first | refine st_store rfl (by first | refine lookM_hd | exact lookM_sl rfl lookM_hd | (repeat (first | refine lookM_hd | refine lookM_sl rfl ?_))) rfl (by (try simp only [nfA, T_md, Nat.reduceAdd]) <;> apply rfl) ?_) | (refine is_as ?_; first | refine as_val rfl ?_ | refine as_new rfl rfl ?_) | (refine is_pk ?_; first | refine pk_twoT rfl rfl ?_ | refine pk_twoF rfl rfl ?_ | (refine pk_case rfl ?_ ?_ <;> (intro h; subst h))) | (refine is_bd ?_; first | refine bd_valn rfl (by (try simp only [nfA, T_md, Nat.reduceAdd]) <;> apply rfl) ?_) | (refine is_ia ?_; first | (refine ia_elt rfl ?_ (fun _ _ => ?_))) | (refine is_al ?_; first | refine al_alloc rfl (by (try simp only [nfA, T_md, Nat.reduceAdd]) <;> apply rfl) ?_) | (refine is_ex ?_; first | (refine rl_extB rfl ?_; intro _ _) | refine ex_valn rfl (by (try simp only [nfA, T_md, Nat.reduceAdd]) <;> apply rfl) ?_) | (refine is_uo ?_; first | refine uo_val rfl ?_) | (refine is_bs ?_; first | refine bs_new rfl (by (try simp only [nfA, T_md, Nat.reduceAdd]) <;> apply rfl) ?_) | (refine is_bi ?_; first | refine bi_val rfl ?_ | refine bi_own rfl (by first | refine lookB_hd | exact lookB_tt lookB_hd | (repeat (first | refine lookB_hd | refine lookB_sl rfl ?_))) ?_ ?_ | refine bi_needN rfl ?_ ?_ | (refine bi_gated rfl (by (try simp only [nfA, T_md, Nat.reduceAdd]) <;> apply rfl) ?_; intro _))) | refine rl_nil ?_ | (refine is_aw ?_; first | refine aw_seq ?_ | refine aw_scope ?_ | refine aw_reg rfl ?_ | refine aw_draw rfl ?_ | refine aw_condT rfl ?_ | refine aw_condF rfl ?_ | (refine aw_condN rfl ?_ ?_ <;> (intro h; subst h)) | (refine aw_cond rfl ?_ ?_ <;> (intro h; subst h)) | refine aw_skip ?_ | refine aw_ret ?_ | refine aw_exit ?_ | refine aw_block ?_ | refine aw_label ?_) | refine tq_n ?_ | refine ng_n ?_ | refine ng_r ?_ | refine ng_x ?_ | refine ⟨(rfl : regOk _ _ = true), ?_⟩ | refine tq_r ?_ | refine tq_x ?_ | refine bq_n ?_ | refine bq_x ?_ | refine bq_r ?_ | refine bq_o rfl ?_ | refine fq_r rfl ?_ | refine fq_n rfl ?_)
  all_goals try (simp only [maxLen_eq, List.length_map, decide_eq_true_eq, decide_eq_false_iff_not, Int.toNat_natCast, Bool.not_eq_true', Bool.not_eq_false', Bool.not_eq_true, Bool.not_eq_false] at *; omega)
  · rename_i hl x hx hc
    simp only [maxLen_eq, List.length_map, decide_eq_true_eq, decide_eq_false_iff_not, Int.toNat_natCast, Bool.not_eq_true', Bool.not_eq_false', Bool.not_eq_true, Bool.not_eq_false] at *
    rw [foldL_kind hx (by simp [kindL]; omega)]; rfl
  · rename_i hl y hy hc x hx hd
    simp only [maxLen_eq, List.length_map, decide_eq_true_eq, decide_eq_false_iff_not, Int.toNat_natCast, Bool.not_eq_true', Bool.not_eq_false', Bool.not_eq_true, Bool.not_eq_false] at *
    rw [foldL_kind hx (by simp [kindL]; omega)]; rfl
  · rename_i hl y hy hc x hx hd
    simp only [maxLen_eq, List.length_map, decide_eq_true_eq, decide_eq_false_iff_not, Int.toNat_natCast, Bool.not_eq_true', Bool.not_eq_false', Bool.not_eq_true, Bool.not_eq_false] at *
    rw [hx] at hy; cases hy
    refine ⟨n + 1, _, by omega, le_of ⟨rfl, rfl, rfl, trivial⟩ ⟨rfl, trivial⟩ trivial (Nat.le_refl _), by omega, fun j hj => ?_⟩
    rcases Nat.lt_or_ge j n with q | q
    · exact hk j q
    · obtain rfl : j = n := by omega
      have hx' : l.getD j default = y := by simp [List.getD, hx]
      rw [hx']
      simp [kindL]; omega
  · rename_i hl _ hc
    simp only [maxLen_eq, List.length_map, decide_eq_true_eq, decide_eq_false_iff_not, Int.toNat_natCast, Bool.not_eq_true', Bool.not_eq_false', Bool.not_eq_true, Bool.not_eq_false] at *
    have : foldL l = .error 10 := by
      have : l = [] := List.length_eq_zero_iff.1 (by omega)
      subst this; rfl
    rw [this]; rfl
  rename_i hl _ hc
  simp only [maxLen_eq, List.length_map, decide_eq_true_eq, decide_eq_false_iff_not, Int.toNat_natCast, Bool.not_eq_true', Bool.not_eq_false', Bool.not_eq_true, Bool.not_eq_false] at *
  have hall : ∀ j, j < l.length → kindL (l.getD j default) = true := fun j hj => hk j (by omega)
  have hpos : 0 < l.length := by omega
  clear hk
  refine aw_loopX (fun (n : Nat) e => ⟨[(5, .dat (I n)), (0, .dat (.lst 15 (ecs l))), (2, .ptr (2, 0, 1) 0)], [((2, 0, 1), zeroW)], [], e⟩) (fun n => n ≤ l.length ∧ ∀ j, j < n → ((l.getD j default).kind = 1 ↔ j = l.length - 1) ∧ ((l.getD j default).kind = 5 → j = 0)) (fun n => l.length - n) 0 _ (le_of ⟨rfl, rfl, rfl, trivial⟩ ⟨rfl, trivial⟩ trivial (Nat.le_refl _)) (by simp) ?_
  rintro n e ⟨hn, hk⟩
  repeat' (first | (refine is_cons ?_; first | (refine is_g ?_; first | refine rl_on rfl rfl ?_ | refine rl_off rfl rfl ?_ | refine rl_offU rfl ?_ | (refine rl_case rfl ?_ ?_ <;> (intro h; first | subst h | (simp only [Bool.not_eq_true', Bool.not_eq_false'] at h; subst h)))) | (refine is_fa ?_; first | refine fa_valn rfl (by (try simp only [nfA, T_md, Nat.reduceAdd]) <;> apply rfl) ?_) | (refine is_ld ?_; first | refine ld_load rfl (by first | refine lookM_hd | exact lookM_sl rfl lookM_hd | (repeat (first | refine lookM_hd | refine lookM_sl rfl ?_))) rfl (by (try simp only [nfA, T_md, Nat.reduceAdd]) <;> apply rfl) ?_ | refine ld_valn rfl (by (try simp only [nfA, T_md, Nat.reduceAdd]) <;> apply rfl) ?_) | (refine is_mv ?_; first | refine mv_val rfl ?_) | (refine is_bo ?_; first | refine rl_binT rfl ?_ | refine rl_binF rfl ?_ | (refine rl_binB rfl ?_; intro _ _) | (refine rl_half rfl (by (try simp only [maxLen_eq, List.length_map, decide_eq_true_eq, decide_eq_false_iff_not] at *); omega) ?_) | (refine rl_binW rfl (by (try simp only [maxLen_eq, List.length_map, decide_eq_true_eq, decide_eq_false_iff_not] at *); omega) ?_) | refine bo_val rfl ?_) | (refine is_st ?_; first | refine st_store rfl (by first | refine lookM_hd | exact lookM_sl rfl lookM_hd | (repeat (first | refine lookM_hd | refine lookM_sl rfl ?_))) rfl (by (try simp only [nfA, T_md, Nat.reduceAdd]) <;> apply rfl) ?_) | (refine is_as ?_; first | refine as_val rfl ?_ | refine as_new rfl rfl ?_) | (refine is_pk ?_; first | refine pk_twoT rfl rfl ?_ | refine pk_twoF rfl rfl ?_ | (refine pk_case rfl ?_ ?_ <;> (intro h; subst h))) | (refine is_bd ?_; first | refine bd_valn rfl (by (try simp only [nfA, T_md, Nat.reduceAdd]) <;> apply rfl) ?_) | (refine is_ia ?_; first | (refine ia_elt rfl ?_ (fun _ _ => ?_))) | (refine is_al ?_; first | refine al_alloc rfl (by (try simp only [nfA, T_md, Nat.reduceAdd]) <;> apply rfl) ?_) | (refine is_ex ?_; first | (refine rl_extB rfl ?_; intro _ _) | refine ex_valn rfl (by (try simp only [nfA, T_md, Nat.reduceAdd]) <;> apply rfl) ?_) | (refine is_uo ?_; first | refine uo_val rfl ?_) | (refine is_bs ?_; first | refine bs_new rfl (by (try simp only [nfA, T_md, Nat.reduceAdd]) <;> apply rfl) ?_) | (refine is_bi ?_; first | refine bi_val rfl ?_ | refine bi_own rfl (by first | refine lookB_hd | exact lookB_tt lookB_hd | (repeat (first | refine lookB_hd | refine lookB_sl rfl ?_))) ?_ ?_ | refine bi_needN rfl ?_ ?_ | (refine bi_gated rfl (by (try simp only [nfA, T_md, Nat.reduceAdd]) <;> apply rfl) ?_; intro _)) | (refine is_cf 36 ?_; first | (refine cfB (f36_calls _ _ _ _) rfl ⟨.inl rfl, .inl rfl, .inl rfl, .inl rfl, trivial⟩ ?_; intro _ _) | (refine cfB (f36_calls _ _ _ _) rfl ⟨(by first | exact .inl rfl | exact .inr (.inl rfl) | exact .inr (.inr ⟨_, _, rfl, rfl⟩)), (by first | exact .inl rfl | exact .inr (.inl rfl) | exact .inr (.inr ⟨_, _, rfl, rfl⟩)), (by first | exact .inl rfl | exact .inr (.inl rfl) | exact .inr (.inr ⟨_, _, rfl, rfl⟩)), (by first | exact .inl rfl | exact .inr (.inl rfl) | exact .inr (.inr ⟨_, _, rfl, rfl⟩)), trivial⟩ ?_; intro _ _))) | refine rl_nil ?_ | (refine is_aw ?_; first | refine aw_seq ?_ | refine aw_scope ?_ | refine aw_reg rfl ?_ | refine aw_draw rfl ?_ | refine aw_condT rfl ?_ | refine aw_condF rfl ?_ | (refine aw_condN rfl ?_ ?_ <;> (intro h; subst h)) | (refine aw_cond rfl ?_ ?_ <;> (intro h; subst h)) | refine aw_skip ?_ | refine aw_ret ?_ | refine aw_exit ?_ | refine aw_block ?_ | refine aw_label ?_) | refine tq_n ?_ | refine ng_n ?_ | refine ng_r ?_ | refine ng_x ?_ | refine ⟨(rfl : regOk _ _ = true), ?_⟩ | refine tq_r ?_ | refine tq_x ?_ | refine bq_n ?_ | refine bq_x ?_ | refine bq_r ?_ | refine bq_o rfl ?_ | refine fq_r rfl ?_ | refine fq_n rfl ?_)
  all_goals try (simp only [maxLen_eq, List.length_map, decide_eq_true_eq, decide_eq_false_iff_not, Int.toNat_natCast, Bool.not_eq_true', Bool.not_eq_false', Bool.not_eq_true, Bool.not_eq_false] at *; omega)
  · rename_i hl x hx b1 hb1 _ b2 hb2 hne
    simp only [maxLen_eq, List.length_map, decide_eq_true_eq, decide_eq_false_iff_not, Int.toNat_natCast, Bool.not_eq_true', Bool.not_eq_false', Bool.not_eq_true, Bool.not_eq_false] at *
    have hx' : l.getD n default = x := by simp [List.getD, hx]
    have : foldL l = .error 10 := foldL_bad hall hpos fun v hq => by
      rcases Nat.lt_or_ge n (l.length - 1) with q | q
      · have : ¬ ((n : Int) = (l.length : Int) - 1) := by omega
        rw [← hb2] at hne
        simp only [this, decide_false] at hne
        rw [← hb1] at hne
        exact goUp_kind1 (by rw [hx']; simpa using hne) q
      · exfalso
        have e1 : n = l.length - 1 := by omega
        have : (n : Int) = (l.length : Int) - 1 := by omega
        rw [← e1, hx'] at hq
        rw [← hb2, ← hb1] at hne
        simp [hq, this] at hne
    rw [this]; rfl
  · rename_i hl y hy b1 hb1 _ b2 hb2 he x hx h5 h0
    simp only [maxLen_eq, List.length_map, decide_eq_true_eq, decide_eq_false_iff_not, Int.toNat_natCast, Bool.not_eq_true', Bool.not_eq_false', Bool.not_eq_true, Bool.not_eq_false] at *
    have hx' : l.getD n default = x := by simp [List.getD, hx]
    rw [hx] at hy; cases hy
    have : foldL l = .error 10 := foldL_bad hall hpos fun v hq => by
      rcases Nat.lt_or_ge n (l.length - 1) with q | q
      · exact goUp_kind5 (by rw [hx']; exact h5) (by omega) q
      · exfalso
        have e1 : n = l.length - 1 := by omega
        rw [← e1, hx'] at hq
        omega
    rw [this]; rfl
  · rename_i hl y hy b1 hb1 _ b2 hb2 he x hx h5 h0
    simp only [maxLen_eq, List.length_map, decide_eq_true_eq, decide_eq_false_iff_not, Int.toNat_natCast, Bool.not_eq_true', Bool.not_eq_false', Bool.not_eq_true, Bool.not_eq_false] at *
    have hx' : l.getD n default = x := by simp [List.getD, hx]
    rw [hx] at hy; cases hy
    refine ⟨n + 1, _, by omega, le_of ⟨rfl, rfl, rfl, trivial⟩ ⟨rfl, trivial⟩ trivial (Nat.le_refl _), by omega, fun j hj => ?_⟩
    rcases Nat.lt_or_ge j n with q | q
    · exact hk j q
    · obtain rfl : j = n := by omega
      rw [← hb1, ← hb2, decide_eq_decide] at he
      rw [hx', he]
      exact ⟨by omega, fun _ => by omega⟩
  · rename_i hl y hy b1 hb1 _ b2 hb2 he x hx h5
    simp only [maxLen_eq, List.length_map, decide_eq_true_eq, decide_eq_false_iff_not, Int.toNat_natCast, Bool.not_eq_true', Bool.not_eq_false', Bool.not_eq_true, Bool.not_eq_false] at *
    have hx' : l.getD n default = x := by simp [List.getD, hx]
    rw [hx] at hy; cases hy
    refine ⟨n + 1, _, by omega, le_of ⟨rfl, rfl, rfl, trivial⟩ ⟨rfl, trivial⟩ trivial (Nat.le_refl _), by omega, fun j hj => ?_⟩
    rcases Nat.lt_or_ge j n with q | q
    · exact hk j q
    · obtain rfl : j = n := by omega
      rw [← hb1, ← hb2, decide_eq_decide] at he
      rw [hx', he]
      exact ⟨by omega, fun q => absurd q h5⟩
  rename_i hl _ b hb ok hok _
  simp only [maxLen_eq, List.length_map, decide_eq_true_eq, decide_eq_false_iff_not, Int.toNat_natCast, Bool.not_eq_true', Bool.not_eq_false', Bool.not_eq_true, Bool.not_eq_false] at *
  have e1 : ((l.length : Int) - 1).toNat = l.length - 1 := by omega
  rw [e1] at hb
  have hkb := (hk (l.length - 1) (by omega)).1
  rw [show l.getD (l.length - 1) default = b by simp [List.getD, hb]] at hkb
  refine aw_loopX (fun (x : (Nat × LView × Bool) × Option Key) e' => ⟨[(9, .dat (I ((x.1.1 : Int) - 1))), (7, .ptr (7, 0, e + 1 + 1 + 1) 0), (8, .dat (.bool x.1.2.2)), (0, .dat (.lst 15 (ecs l))), (2, .ptr (2, 0, 1) 0)], [((7, 0, e + 1 + 1 + 1), cellsV x.1.2.1 x.2), ((2, 0, 1), zeroW)], [], e'⟩) (fun x => InvL l x.1) (fun x => x.1.1) ((l.length - 1, baseV b, ok), none) _
    (le_of ⟨?_, rfl, rfl, rfl, rfl, trivial⟩ ⟨lookM_hd, lookM_sl rfl (lookM_sl rfl (lookM_sl rfl (lookM_sl rfl lookM_hd))), trivial⟩ trivial (Nat.le_refl _)) (invL_base hall hb (hkb.2 rfl) hok hs) ?_
  · have e3 : ((l.length - 1 : Nat) : Int) - 1 = (l.length : Int) - 2 := by omega
    dsimp only
    rw [e3]; rfl
  rintro ⟨⟨m, v, ok⟩, c⟩ e2 hI
  dsimp only at hI ⊢
  cases ok with
  | false =>
    repeat' (first | (refine is_cons ?_; first | (refine is_g ?_; first | refine rl_on rfl rfl ?_ | refine rl_off rfl rfl ?_ | refine rl_offU rfl ?_ | (refine rl_case rfl ?_ ?_ <;> (intro h; first | subst h | (simp only [Bool.not_eq_true', Bool.not_eq_false'] at h; subst h)))) | (refine is_fa ?_; first | refine fa_valn rfl (by (try simp only [nfA, T_md, Nat.reduceAdd]) <;> apply rfl) ?_) | (refine is_ld ?_; first | refine ld_load rfl (by first | refine lookM_hd | exact lookM_sl rfl lookM_hd | (repeat (first | refine lookM_hd | refine lookM_sl rfl ?_))) rfl (by (try simp only [nfA, T_md, Nat.reduceAdd]) <;> apply rfl) ?_ | refine ld_valn rfl (by (try simp only [nfA, T_md, Nat.reduceAdd]) <;> apply rfl) ?_) | (refine is_mv ?_; first | refine mv_val rfl ?_) | (refine is_bo ?_; first | refine rl_binT rfl ?_ | refine rl_binF rfl ?_ | (refine rl_binB rfl ?_; intro _ _) | (refine rl_half rfl (by (try simp only [maxLen_eq, List.length_map, decide_eq_true_eq, decide_eq_false_iff_not] at *); omega) ?_) | (refine rl_binW rfl (by (try simp only [maxLen_eq, List.length_map, decide_eq_true_eq, decide_eq_false_iff_not] at *); omega) ?_) | refine bo_val rfl ?_) | (refine is_st ?_; first | refine st_store rfl (by first | refine lookM_hd | exact lookM_sl rfl lookM_hd | (repeat (first | refine lookM_hd | refine lookM_sl rfl ?_))) rfl (by (try simp only [nfA, T_md, Nat.reduceAdd]) <;> apply rfl) ?_) | (refine is_as ?_; first | refine as_val rfl ?_ | refine as_new rfl rfl ?_) | (refine is_pk ?_; first | refine pk_twoT rfl rfl ?_ | refine pk_twoF rfl rfl ?_ | (refine pk_case rfl ?_ ?_ <;> (intro h; subst h))) | (refine is_bd ?_; first | refine bd_valn rfl (by (try simp only [nfA, T_md, Nat.reduceAdd]) <;> apply rfl) ?_) | (refine is_ia ?_; first | (refine ia_elt rfl ?_ (fun _ _ => ?_))) | (refine is_al ?_; first | refine al_alloc rfl (by (try simp only [nfA, T_md, Nat.reduceAdd]) <;> apply rfl) ?_) | (refine is_ex ?_; first | (refine rl_extB rfl ?_; intro _ _) | refine ex_valn rfl (by (try simp only [nfA, T_md, Nat.reduceAdd]) <;> apply rfl) ?_) | (refine is_uo ?_; first | refine uo_val rfl ?_) | (refine is_bs ?_; first | refine bs_new rfl (by (try simp only [nfA, T_md, Nat.reduceAdd]) <;> apply rfl) ?_) | (refine is_bi ?_; first | refine bi_val rfl ?_ | refine bi_own rfl (by first | refine lookB_hd | exact lookB_tt lookB_hd | (repeat (first | refine lookB_hd | refine lookB_sl rfl ?_))) ?_ ?_ | refine bi_needN rfl ?_ ?_ | (refine bi_gated rfl (by (try simp only [nfA, T_md, Nat.reduceAdd]) <;> apply rfl) ?_; intro _))) | refine rl_nil ?_ | (refine is_aw ?_; first | refine aw_seq ?_ | refine aw_scope ?_ | refine aw_reg rfl ?_ | refine aw_draw rfl ?_ | refine aw_condT rfl ?_ | refine aw_condF rfl ?_ | (refine aw_condN rfl ?_ ?_ <;> (intro h; subst h)) | (refine aw_cond rfl ?_ ?_ <;> (intro h; subst h)) | refine aw_skip ?_ | refine aw_ret ?_ | refine aw_exit ?_ | refine aw_block ?_ | refine aw_label ?_) | refine tq_n ?_ | refine ng_n ?_ | refine ng_r ?_ | refine ng_x ?_ | refine ⟨(rfl : regOk _ _ = true), ?_⟩ | refine tq_r ?_ | refine tq_x ?_ | refine bq_n ?_ | refine bq_x ?_ | refine bq_r ?_ | refine bq_o rfl ?_ | refine fq_r rfl ?_ | refine fq_n rfl ?_)
    all_goals (rw [hI.2.2 rfl]; rfl)
  | true =>
    cases m with
    | zero =>
      have hfin : foldL l = .ok v := (hI.2.1 rfl).2.2.2
      cases c
      all_goals dsimp only [cellsV]
      all_goals
        repeat' (first | (refine is_cons ?_; first | (refine is_g ?_; first | refine rl_on rfl rfl ?_ | refine rl_off rfl rfl ?_ | refine rl_offU rfl ?_ | (refine rl_case rfl ?_ ?_ <;> (intro h; first | subst h | (simp only [Bool.not_eq_true', Bool.not_eq_false'] at h; subst h)))) | (refine is_fa ?_; first | refine fa_valn rfl (by (try simp only [nfA, T_md, Nat.reduceAdd]) <;> apply rfl) ?_) | (refine is_ld ?_; first | refine ld_load rfl (by first | refine lookM_hd | exact lookM_sl rfl lookM_hd | (repeat (first | refine lookM_hd | refine lookM_sl rfl ?_))) rfl (by (try simp only [nfA, T_md, Nat.reduceAdd]) <;> apply rfl) ?_ | refine ld_valn rfl (by (try simp only [nfA, T_md, Nat.reduceAdd]) <;> apply rfl) ?_) | (refine is_mv ?_; first | refine mv_val rfl ?_) | (refine is_bo ?_; first | refine rl_binT rfl ?_ | refine rl_binF rfl ?_ | (refine rl_binB rfl ?_; intro _ _) | (refine rl_half rfl (by (try simp only [maxLen_eq, List.length_map, decide_eq_true_eq, decide_eq_false_iff_not] at *); omega) ?_) | (refine rl_binW rfl (by (try simp only [maxLen_eq, List.length_map, decide_eq_true_eq, decide_eq_false_iff_not] at *); omega) ?_) | refine bo_val rfl ?_) | (refine is_st ?_; first | refine st_store rfl (by first | refine lookM_hd | exact lookM_sl rfl lookM_hd | (repeat (first | refine lookM_hd | refine lookM_sl rfl ?_))) rfl (by (try simp only [nfA, T_md, Nat.reduceAdd]) <;> apply rfl) ?_) | (refine is_as ?_; first | refine as_val rfl ?_ | refine as_new rfl rfl ?_) | (refine is_pk ?_; first | refine pk_twoT rfl rfl ?_ | refine pk_twoF rfl rfl ?_ | (refine pk_case rfl ?_ ?_ <;> (intro h; subst h))) | (refine is_bd ?_; first | refine bd_valn rfl (by (try simp only [nfA, T_md, Nat.reduceAdd]) <;> apply rfl) ?_) | (refine is_ia ?_; first | (refine ia_elt rfl ?_ (fun _ _ => ?_))) | (refine is_al ?_; first | refine al_alloc rfl (by (try simp only [nfA, T_md, Nat.reduceAdd]) <;> apply rfl) ?_) | (refine is_ex ?_; first | (refine rl_extB rfl ?_; intro _ _) | refine ex_valn rfl (by (try simp only [nfA, T_md, Nat.reduceAdd]) <;> apply rfl) ?_) | (refine is_uo ?_; first | refine uo_val rfl ?_) | (refine is_bs ?_; first | refine bs_new rfl (by (try simp only [nfA, T_md, Nat.reduceAdd]) <;> apply rfl) ?_) | (refine is_bi ?_; first | refine bi_val rfl ?_ | refine bi_own rfl (by first | refine lookB_hd | exact lookB_tt lookB_hd | (repeat (first | refine lookB_hd | refine lookB_sl rfl ?_))) ?_ ?_ | refine bi_needN rfl ?_ ?_ | (refine bi_gated rfl (by (try simp only [nfA, T_md, Nat.reduceAdd]) <;> apply rfl) ?_; intro _))) | refine rl_nil ?_ | (refine is_aw ?_; first | refine aw_seq ?_ | refine aw_scope ?_ | refine aw_reg rfl ?_ | refine aw_draw rfl ?_ | refine aw_condT rfl ?_ | refine aw_condF rfl ?_ | (refine aw_condN rfl ?_ ?_ <;> (intro h; subst h)) | (refine aw_cond rfl ?_ ?_ <;> (intro h; subst h)) | refine aw_skip ?_ | refine aw_ret ?_ | refine aw_exit ?_ | refine aw_block ?_ | refine aw_label ?_) | refine tq_n ?_ | refine ng_n ?_ | refine ng_r ?_ | refine ng_x ?_ | refine ⟨(rfl : regOk _ _ = true), ?_⟩ | refine tq_r ?_ | refine tq_x ?_ | refine bq_n ?_ | refine bq_x ?_ | refine bq_r ?_ | refine bq_o rfl ?_ | refine fq_r rfl ?_ | refine fq_n rfl ?_)
      all_goals first
        | (exfalso; simp only [maxLen_eq, List.length_map, decide_eq_true_eq, decide_eq_false_iff_not, Int.toNat_natCast, Bool.not_eq_true', Bool.not_eq_false', Bool.not_eq_true, Bool.not_eq_false] at *; omega)
        | (rw [hfin]; rfl)
    | succ k =>
      have hle : k + 1 ≤ l.length - 1 := hI.1
      have hgo : v.gone = false := by
        cases q : v.gone with
        | false => rfl
        | true => have := (hI.2.1 rfl).2.1 q; omega
      have hro : v.rows.length + szL l (k + 1) ≤ 900000 := (hI.2.1 rfl).2.2.1
      have hX : l[k]? = some (l.getD k default) := by simp [List.getD, List.getElem?_eq_getElem (show k < l.length by omega)]
      have hz := szL_succ hX
      have hk1 := hk k (by omega)
      have hkin := hall k (by omega)
      generalize l.getD k default = X at hX hk1 hkin hz
      have hX5 := hk1.2
      have hXk : X.kind = 2 ∨ X.kind = 3 ∨ X.kind = 4 ∨ X.kind = 5 ∨ X.kind = 6 := by
        have h1 : X.kind ≠ 1 := fun q => by have := hk1.1.1 q; omega
        simp only [kindL, Bool.and_eq_true, decide_eq_true_eq] at hkin
        omega
      have hS := fun h => refStep (v := v) hXk h hX hgo hI
      have hkn : ∀ a, l[(((k + 1 : Nat) : Int) - 1).toNat]? = some a → a = X := by
        intro a ha
        have : (((k + 1 : Nat) : Int) - 1).toNat = k := by omega
        rw [this, hX] at ha
        exact (Option.some.inj ha).symm
      have hbnd : 0 ≤ (((k + 1 : Nat) : Int) - 1) ∧ (((k + 1 : Nat) : Int) - 1).toNat < l.length := by omega
      replace hS := hS hX5
      clear hI hX5 hk1 hkin hk hkb hall hok hb
      obtain ⟨vlo, vhi, vun, vri, vro, vgo⟩ := v
      obtain ⟨kd, lo, hi, un, ri, ro, en, ke, va, pa, ho, ne⟩ := X
      dsimp only at hgo hro hz hXk
      subst hgo
      rcases hXk with q | q | q | q | q
      all_goals subst q
      all_goals cases c
      all_goals dsimp only [cellsV]
      all_goals
        repeat' (first | (refine is_cons ?_; first | (refine is_g ?_; first | refine rl_on rfl rfl ?_ | refine rl_off rfl rfl ?_ | refine rl_offU rfl ?_ | (refine rl_case rfl ?_ ?_ <;> (intro h; first | subst h | (simp only [Bool.not_eq_true', Bool.not_eq_false'] at h; subst h)))) | (refine is_ia ?_; refine ia_elt rfl hbnd (fun a ha => ?_); obtain rfl := hkn a ha) | (refine is_fa ?_; first | refine fa_valn rfl (by (try simp only [nfA, T_md, Nat.reduceAdd]) <;> apply rfl) ?_) | (refine is_ld ?_; first | refine ld_load rfl (by first | refine lookM_hd | exact lookM_sl rfl lookM_hd | (repeat (first | refine lookM_hd | refine lookM_sl rfl ?_))) rfl (by (try simp only [nfA, T_md, Nat.reduceAdd]) <;> apply rfl) ?_ | refine ld_valn rfl (by (try simp only [nfA, T_md, Nat.reduceAdd]) <;> apply rfl) ?_) | (refine is_mv ?_; first | refine mv_val rfl ?_) | (refine is_bo ?_; first | refine rl_binT rfl ?_ | refine rl_binF rfl ?_ | (refine rl_binB rfl ?_; intro _ _) | (refine rl_half rfl (by (try simp only [maxLen_eq, List.length_map, decide_eq_true_eq, decide_eq_false_iff_not] at *); omega) ?_) | (refine rl_binW rfl (by (try simp only [maxLen_eq, List.length_map, decide_eq_true_eq, decide_eq_false_iff_not] at *); omega) ?_) | refine bo_val rfl ?_) | (refine is_st ?_; first | refine st_store rfl (by first | refine lookM_hd | exact lookM_sl rfl lookM_hd | (repeat (first | refine lookM_hd | refine lookM_sl rfl ?_))) rfl (by (try simp only [nfA, T_md, Nat.reduceAdd]) <;> apply rfl) ?_) | (refine is_as ?_; first | refine as_val rfl ?_ | refine as_new rfl rfl ?_) | (refine is_pk ?_; first | refine pk_twoT rfl rfl ?_ | refine pk_twoF rfl rfl ?_ | (refine pk_case rfl ?_ ?_ <;> (intro h; subst h))) | (refine is_bd ?_; first | refine bd_valn rfl (by (try simp only [nfA, T_md, Nat.reduceAdd]) <;> apply rfl) ?_) | (refine is_ia ?_; first | (refine ia_elt rfl ?_ (fun _ _ => ?_))) | (refine is_al ?_; first | refine al_alloc rfl (by (try simp only [nfA, T_md, Nat.reduceAdd]) <;> apply rfl) ?_) | (refine is_ex ?_; first | (refine rl_extB rfl ?_; intro _ _) | refine ex_valn rfl (by (try simp only [nfA, T_md, Nat.reduceAdd]) <;> apply rfl) ?_) | (refine is_uo ?_; first | refine uo_val rfl ?_) | (refine is_bs ?_; first | refine bs_new rfl (by (try simp only [nfA, T_md, Nat.reduceAdd]) <;> apply rfl) ?_) | (refine is_bi ?_; first | refine bi_val rfl ?_ | refine bi_own rfl (by first | refine lookB_hd | exact lookB_tt lookB_hd | (repeat (first | refine lookB_hd | refine lookB_sl rfl ?_))) ?_ ?_ | refine bi_needN rfl ?_ ?_ | (refine bi_gated rfl (by (try simp only [nfA, T_md, Nat.reduceAdd]) <;> apply rfl) ?_; intro _)) | (refine is_cf 18 ?_; first | (refine cfB (f18_calls ⟨ke, va⟩) rfl ⟨.inl rfl, trivial⟩ ?_; intro _ _) | (refine cfB (f18_calls ⟨ke, va⟩) rfl ⟨(by first | exact .inl rfl | exact .inr (.inl rfl) | exact .inr (.inr ⟨_, _, rfl, rfl⟩)), trivial⟩ ?_; intro _ _)) | (refine is_cf 37 ?_; first | (refine cfB (f37_calls ⟨vlo, vhi, vun, vri, vro, false⟩ _) rfl ⟨.inl rfl, .inl rfl, trivial⟩ ?_; intro _ _) | (refine cfB (f37_calls ⟨vlo, vhi, vun, vri, vro, false⟩ _) rfl ⟨(by first | exact .inl rfl | exact .inr (.inl rfl) | exact .inr (.inr ⟨_, _, rfl, rfl⟩)), (by first | exact .inl rfl | exact .inr (.inl rfl) | exact .inr (.inr ⟨_, _, rfl, rfl⟩)), trivial⟩ ?_; intro _ _)) | (refine is_cf 38 ?_; first | refine cf (f38_calls vro ⟨ke, va⟩ (by omega)) rfl ⟨.inl rfl, .inl rfl, trivial⟩ ?_ | refine cf (f38_calls vro ⟨ke, va⟩ (by omega)) rfl ⟨(by first | exact .inl rfl | exact .inr (.inl rfl) | exact .inr (.inr ⟨_, _, rfl, rfl⟩)), (by first | exact .inl rfl | exact .inr (.inl rfl) | exact .inr (.inr ⟨_, _, rfl, rfl⟩)), trivial⟩ ?_) | (refine is_cf 39 ?_; first | refine cf (f39_calls vro ke (by omega)) rfl ⟨.inl rfl, .inl rfl, trivial⟩ ?_ | refine cf (f39_calls vro ke (by omega)) rfl ⟨(by first | exact .inl rfl | exact .inr (.inl rfl) | exact .inr (.inr ⟨_, _, rfl, rfl⟩)), (by first | exact .inl rfl | exact .inr (.inl rfl) | exact .inr (.inr ⟨_, _, rfl, rfl⟩)), trivial⟩ ?_) | (refine is_cf 40 ?_; first | refine cf (f40_calls vro ke (by omega)) rfl ⟨.inl rfl, .inl rfl, trivial⟩ ?_ | refine cf (f40_calls vro ke (by omega)) rfl ⟨(by first | exact .inl rfl | exact .inr (.inl rfl) | exact .inr (.inr ⟨_, _, rfl, rfl⟩)), (by first | exact .inl rfl | exact .inr (.inl rfl) | exact .inr (.inr ⟨_, _, rfl, rfl⟩)), trivial⟩ ?_) | (refine is_cf 41 ?_; first | (refine cfB (f41_calls _ _) rfl ⟨.inl rfl, .inl rfl, trivial⟩ ?_; intro _ _) | (refine cfB (f41_calls _ _) rfl ⟨(by first | exact .inl rfl | exact .inr (.inl rfl) | exact .inr (.inr ⟨_, _, rfl, rfl⟩)), (by first | exact .inl rfl | exact .inr (.inl rfl) | exact .inr (.inr ⟨_, _, rfl, rfl⟩)), trivial⟩ ?_; intro _ _)) | (refine is_cf 36 ?_; first | (refine cfB (f36_calls _ _ _ _) rfl ⟨.inl rfl, .inl rfl, .inl rfl, .inl rfl, trivial⟩ ?_; intro _ _) | (refine cfB (f36_calls _ _ _ _) rfl ⟨(by first | exact .inl rfl | exact .inr (.inl rfl) | exact .inr (.inr ⟨_, _, rfl, rfl⟩)), (by first | exact .inl rfl | exact .inr (.inl rfl) | exact .inr (.inr ⟨_, _, rfl, rfl⟩)), (by first | exact .inl rfl | exact .inr (.inl rfl) | exact .inr (.inr ⟨_, _, rfl, rfl⟩)), (by first | exact .inl rfl | exact .inr (.inl rfl) | exact .inr (.inr ⟨_, _, rfl, rfl⟩)), trivial⟩ ?_; intro _ _))) | refine rl_nil ?_ | (refine is_aw ?_; first | refine aw_seq ?_ | refine aw_scope ?_ | refine aw_reg rfl ?_ | refine aw_draw rfl ?_ | refine aw_condT rfl ?_ | refine aw_condF rfl ?_ | (refine aw_condN rfl ?_ ?_ <;> (intro h; subst h)) | (refine aw_cond rfl ?_ ?_ <;> (intro h; subst h)) | refine aw_skip ?_ | refine aw_ret ?_ | refine aw_exit ?_ | refine aw_block ?_ | refine aw_label ?_) | refine tq_n ?_ | refine ng_n ?_ | refine ng_r ?_ | refine ng_x ?_ | refine ⟨(rfl : regOk _ _ = true), ?_⟩ | refine tq_r ?_ | refine tq_x ?_ | refine bq_n ?_ | refine bq_x ?_ | refine bq_r ?_ | refine bq_o rfl ?_ | refine fq_r rfl ?_ | refine fq_n rfl ?_)
      all_goals first
        | (refine ex_mk (α := (Nat × LView × Bool) × Option Key) ((k, (refV _ _).1, (refV _ _).2), none) _ ⟨by dsimp only; omega, le_of ⟨lk_int rfl (by dsimp only; omega), rfl, lk_bool rfl (by first | rfl | (simp [refV, *]; done)), rfl, rfl, trivial⟩ ⟨lk_mem lookM_hd rfl, lk_mem (by repeat (first | refine lookM_hd | refine lookM_sl rfl ?_)) rfl, trivial⟩ trivial (Nat.le_refl _), hS⟩)
        | (refine ex_mk (α := (Nat × LView × Bool) × Option Key) ((k, (refV _ _).1, (refV _ _).2), some _) _ ⟨by dsimp only; omega, le_of ⟨lk_int rfl (by dsimp only; omega), rfl, lk_bool rfl (by first | rfl | (simp [refV, *]; done)), rfl, rfl, trivial⟩ ⟨lk_mem lookM_hd (cells_app _ _ _ _ _ _ _ _), lk_mem (by repeat (first | refine lookM_hd | refine lookM_sl rfl ?_)) rfl, trivial⟩ trivial (Nat.le_refl _), hS⟩)
        | (refine ex_mk (α := (Nat × LView × Bool) × Option Key) ((k, (refV _ _).1, (refV _ _).2), some _) _ ⟨by dsimp only; omega, le_of ⟨lk_int rfl (by dsimp only; omega), rfl, lk_bool rfl (by first | rfl | (simp [refV, *]; done)), rfl, rfl, trivial⟩ ⟨lk_mem lookM_hd (rfl), lk_mem (by repeat (first | refine lookM_hd | refine lookM_sl rfl ?_)) rfl, trivial⟩ trivial (Nat.le_refl _), hS⟩)
        | (exfalso; simp only [maxLen_eq, List.length_map, decide_eq_true_eq, decide_eq_false_iff_not, Int.toNat_natCast, Bool.not_eq_true', Bool.not_eq_false', Bool.not_eq_true, Bool.not_eq_false] at *; omega)
        | (simp only [maxLen_eq, List.length_append, List.length_map, List.length_nil]; omega)
        | skip
end Go.Proofs.YtbeafnkcimfeeaaDoor.AM.TT
