/- Contracts of the functions and their models, by the abstract machine. -/
import Derived.Test.YtehhgamkijkjgaaPfModz
import Derived.Test.YtehhgamkijkjgaaPfTb
import Derived.Test.YtehhgamkijkjgaaPfEnc
import Derived.Test.YtehhgamkijkjgaaAmS
import Derived.WalkKit
import Derived.LaidEql
import Derived.Stop.Asserts
import Derived.RowKitTokens
import Derived.Test.YtehhgamkijkjgaaPfRefs
import Derived.Test.YtehhgamkijkjgaaPfH21
/- Models (13): what splits and grows. -/
namespace Go.Proofs.Ytehhgamkijkjgaa.AM.TT
open Go Go.Proofs.Ytehhgamkijkjgaa.AM
set_option linter.unusedSimpArgs false
set_option linter.unusedVariables false
theorem lt_self_take : ∀ (a : Str) (n : Nat), lt a (a.take n) = false
  | [], n => by simp [lt]
  | x :: r, 0 => by simp [lt]
  | x :: r, n + 1 => by simp [lt, lt_self_take r n]
/-- What lies between two keys, by trying. -/
theorem lt_take : ∀ {a b : Str}, lt a b = true → ∀ n, lt a (b.take n) = decide (common a b + 1 ≤ n)
  | a, [], h, n => by cases a <;> simp [lt] at h
  | [], y :: s, h, 0 => by simp [lt, common]
  | [], y :: s, h, n + 1 => by simp [lt, common]
  | x :: r, y :: s, h, 0 => by simp [lt]
  | x :: r, y :: s, h, n + 1 => by
    by_cases e : x = y
    · subst e
      simp only [lt, if_true] at h
      simp only [List.take_succ_cons, lt, if_true, common]
      rw [lt_take h n]
      simp only [Nat.add_le_add_iff_right]
    · simp only [lt, e, if_false] at h
      simp only [List.take_succ_cons, lt, e, if_false, common, h]
      simp
theorem common_lt2 {a b : Str} (h : lt a b = true) : common a b + 1 ≤ b.length := by
  have := lt_take h b.length
  rw [List.take_length, h] at this
  simpa using this.symm
end Go.Proofs.Ytehhgamkijkjgaa.AM.TT
/- errors.Is over the program's own codes: what it answers, by walking Go's own text. -/
namespace Go.Proofs.Ytehhgamkijkjgaa.AM.TT
open Go Go.Proofs.Ytehhgamkijkjgaa.AM Go.Proofs Go.RowKit Go.Extern.Stop Go.Stop Go.Extern
set_option linter.unusedVariables false
set_option linter.unusedSimpArgs false
theorem is_typeOf (v : Value) (w : World) : (Extern.ReflectliteType.typeOf #[.iface 51 v]).run Try.prog w = .ok (.iface 170 (.agg #[.pointer (some ⟨0, 51, none⟩)])) w := by kernel_rfl
theorem is_comparable (w : World) : ((Extern.ReflectliteType.method fun t => do Go.Extern.Rtype.noPackHeld "Comparable" t; pure (.bool (← typeInfo t).comparable)) #[.agg #[.pointer (some ⟨0, 51, none⟩)]]).run Try.prog w = .ok (.bool true) w := by kernel_rfl
theorem is_methodComparable (v : Value) (w : World) : (Go.method (320) 170 v "Comparable").run Try.prog w = .ok (123, v) w := by kernel_rfl
theorem is_noIs (v : Value) (xT : TypeId) (w : World) : (Instr.typeAssert (.iface 51 v) xT 172 true).run Try.prog w = .ok (.tuple #[.nilIface, .bool false]) w := run_typeAssert_lacksB Try.underlying172 (by kernel_rfl) (by kernel_rfl) v xT w
theorem is_noUnwrap (v : Value) (xT : TypeId) (w : World) : (Instr.typeAssert (.iface 51 v) xT 175 true).run Try.prog w = .ok (.tuple #[.nilIface, .bool false]) w := run_typeAssert_lacksB Try.underlying175 (by kernel_rfl) (by kernel_rfl) v xT w
theorem is_noUnwraps (v : Value) (xT : TypeId) (w : World) : (Instr.typeAssert (.iface 51 v) xT 177 true).run Try.prog w = .ok (.tuple #[.nilIface, .bool false]) w := run_typeAssert_lacksB Try.underlying177 (by kernel_rfl) (by kernel_rfl) v xT w
theorem is_compat : (Try.prog.info? 51).map (·.comparable) = some true := by kernel_rfl
theorem is_eqlIn (d : Nat) (a b : Int) (w : World) : (Op.equalIn (d + 2) 37 (.iface 51 (.int .i64 a)) (.iface 51 (.int .i64 b))).run Try.prog w = .ok (decide (a = b)) w := by
  obtain ⟨i, hi, hcmp⟩ := Option.map_eq_some_iff.1 is_compat
  simp [Op.equalIn, run_underlying Try.underlying37, run_underlying Try.underlying51, typeInfo, hi, hcmp]
  rfl
theorem is_eql (a b : Int) (w : World) : (binOp .eql 37 (.iface 51 (.int .i64 a)) (.iface 51 (.int .i64 b))).run Try.prog w = .ok (.bool (decide (a = b))) w := by
  simp only [binOp]
  simp [Op.equal, Op.maxDepth, is_eqlIn 9998 a b w]
theorem is_callTypeOf (v : Value) (w : World) : (callFunc 70 #[.iface 51 v]).run Try.prog w = .ok (.value (.iface 170 (.agg #[.pointer (some ⟨0, 51, none⟩)]))) w := by
  have h := @run_callFunc_extern Try.prog 70 _ Extern.ReflectliteType.typeOf Try.func70 (by kernel_rfl) (by kernel_rfl) (by kernel_rfl) (by kernel_rfl)
  rw [h, is_typeOf]; rfl
theorem is_callComparable (w : World) : (callFunc 123 #[.agg #[.pointer (some ⟨0, 51, none⟩)]]).run Try.prog w = .ok (.value (.bool true)) w := by
  have h := @run_callFunc_extern Try.prog 123 _ (Extern.ReflectliteType.method fun t => do Go.Extern.Rtype.noPackHeld "Comparable" t; pure (.bool (← typeInfo t).comparable)) Try.func123 (by kernel_rfl) (by kernel_rfl) (by kernel_rfl) (by kernel_rfl)
  rw [h, is_comparable]; rfl
theorem is_nil (b : Int) (w : World) :
    Calls Try.prog 45 #[.nilIface, .iface 51 (.int .i64 b)] w fun e w' => e = .returned (.bool false) ∧ w' = w := by
  have hn := run_eql_iface_nil_left (P := Try.prog) w 51 (.int .i64 b) Try.underlying37
  go_enter Try.func45, Try.ntmps45
  go_wp2
  go_ret
  exact ⟨rfl, rfl⟩
theorem is_same (a : Int) (w : World) :
    Calls Try.prog 45 #[.iface 51 (.int .i64 a), .iface 51 (.int .i64 a)] w fun e w' => e = .returned (.bool true) ∧ w' = w := by
  have tT := is_callTypeOf
  have cT := is_callComparable
  have mR := is_methodComparable
  have nE := is_noIs
  have uE := is_noUnwrap
  have vE := is_noUnwraps
  have heq := is_eql a a w
  rw [show decide (a = a) = true by simp] at heq
  go_enter Try.func45, Try.ntmps45
  go_wp2
  refine wp_loop_rounds 1 ?_
  rw [rounds_succ]
  go_wp2
  go_ret
  exact ⟨rfl, rfl⟩
theorem is_other (a b : Int) (w : World) (hne : a ≠ b) :
    Calls Try.prog 45 #[.iface 51 (.int .i64 a), .iface 51 (.int .i64 b)] w fun e w' => e = .returned (.bool false) ∧ w' = w := by
  have tT := is_callTypeOf
  have cT := is_callComparable
  have mR := is_methodComparable
  have nE := is_noIs
  have uE := is_noUnwrap
  have vE := is_noUnwraps
  have heq := is_eql a b w
  rw [show decide (a = b) = false by simp [hne]] at heq
  go_enter Try.func45, Try.ntmps45
  go_wp2
  refine wp_loop_rounds 1 ?_
  rw [rounds_succ]
  go_wp2
  go_ret
  exact ⟨rfl, rfl⟩
end Go.Proofs.Ytehhgamkijkjgaa.AM.TT
-- tt
namespace Go.Proofs.Ytehhgamkijkjgaa.AM.TT
open Go Go.Proofs.Ytehhgamkijkjgaa.AM Go.Proofs
set_option linter.unusedSimpArgs false
set_option linter.unusedVariables false
set_option maxHeartbeats 1000000
attribute [local irreducible] RunL AWp StepK OpK thenQ blockQ noGotoQ fnQ fnEQ
theorem enter45 : EnterOk Try.prog 45 := EnterOk_of (fn := Try.f45) (by kernel_rfl) (by kernel_rfl) (by kernel_rfl)
theorem repD_code {K : Known} {c : Int} {y : Value} (h : RepD K (EE c) y) : y = .iface 51 (.int .i64 c) := by
  cases h with
  | ifc t d v h => cases h; rfl
theorem repD_nil {K : Known} {y : Value} (h : RepD K .nilI y) : y = .nilIface := by
  cases h; rfl
theorem f45_of {e : DV} {x : Value} {c : Int} {b : Bool} (he : ∀ K y, RepD K e y → y = x)
    (hw : ∀ w, Calls Try.prog 45 #[x, .iface 51 (.int .i64 c)] w fun en w' => en = .returned (.bool b) ∧ w' = w) : CallsD Try.prog 45 [e, EE c] (.bool b) := by
  refine ⟨enter45, fun K w xs hk hx => ?_⟩
  obtain ⟨h1, h2⟩ := hx
  have g0 := he _ _ (h2 0 e rfl)
  have g1 := repD_code (h2 1 (EE c) rfl)
  obtain rfl : xs = #[x, .iface 51 (.int .i64 c)] := by
    obtain ⟨l⟩ := xs
    match l, h1, g0, g1 with
    | [y, z], _, g0, g1 =>
      simp at g0 g1
      rw [g0, g1]
    | [], h1, _, _ => simp at h1
    | [_], h1, _, _ => simp at h1
    | _ :: _ :: _ :: _, h1, _, _ => simp at h1
  exact (hw w).mono fun en w' ⟨h3, h4⟩ => by
    subst h4
    exact ⟨_, K, h3, .bool _, fun _ _ _ h => h, fun _ _ _ => rfl, hk, Go.RowKit.Below.refl _ _⟩
theorem f45_nil (c : Int) : CallsD Try.prog 45 [.nilI, EE c] (.bool false) := f45_of (fun _ _ h => repD_nil h) (fun w => is_nil c w)
theorem f45_code (a c : Int) : CallsD Try.prog 45 [EE a, EE c] (.bool (decide (a = c))) := by
  by_cases h : a = c
  · subst h
    rw [show decide (a = a) = true by simp]
    exact f45_of (fun _ _ h => repD_code h) (fun w => is_same a w)
  · rw [show decide (a = c) = false by simp [h]]
    exact f45_of (fun _ _ h => repD_code h) (fun w => is_other a c w h)
theorem enter20 : EnterOk Try.prog 20 := EnterOk_of (fn := Try.f20) (by kernel_rfl) (by kernel_rfl) (by kernel_rfl)
theorem f20_calls_nil (c : Int) : CallsD Try.prog 20 [.nilI, I c] (.bool false) := by
  refine CallsD_bd enter20 fun hbd => CallsD_of good mixed (fn := Try.f20) (by kernel_rfl) rfl enter20 (Nat.le_of_ble_eq_true rfl) ?_
  show AWp _ _ _ _ _ ⟨[(0, _), (1, _)], [], [], 0⟩
  repeat' (first
      | (refine is_cons ?_; first
          | (refine is_mv ?_; first | refine mv_val rfl ?_)
          | (refine is_as ?_; first | refine as_val rfl ?_ | refine as_new rfl rfl ?_)
          | (refine is_mi ?_; first | refine mi_val rfl ?_)
          | (refine is_cf 45 ?_; refine cf (f45_nil c) rfl ⟨.inl rfl, .inl rfl, trivial⟩ ?_))
      | refine rl_nil ?_
      | (refine is_aw ?_; first
          | refine aw_seq ?_
          | refine aw_scope ?_
          | refine aw_reg rfl ?_
          | refine aw_draw rfl ?_
          | refine aw_condT rfl ?_
          | refine aw_condF rfl ?_
          | (refine aw_condN rfl ?_ ?_ <;> (intro h; subst h))
          | (refine aw_cond rfl ?_ ?_ <;> (intro h; subst h))
          | refine aw_skip ?_
          | refine aw_ret ?_
          | refine aw_exit ?_
          | refine aw_block ?_
          | refine aw_label ?_)
      | refine tq_n ?_
      | refine ng_n ?_
      | refine ng_r ?_
      | refine ng_x ?_
      | refine ⟨(rfl : regOk _ _ = true), ?_⟩
      | refine tq_r ?_
      | refine tq_x ?_
      | refine bq_n ?_
      | refine bq_x ?_
      | refine bq_r ?_
      | refine bq_o rfl ?_
      | refine fq_r rfl ?_
      | refine fq_n rfl ?_)
  all_goals rfl
theorem f20_calls_code (a c : Int) : CallsD Try.prog 20 [EE a, I c] (.bool (decide (a = c))) := by
  refine CallsD_bd enter20 fun hbd => CallsD_of good mixed (fn := Try.f20) (by kernel_rfl) rfl enter20 (Nat.le_of_ble_eq_true rfl) ?_
  show AWp _ _ _ _ _ ⟨[(0, _), (1, _)], [], [], 0⟩
  repeat' (first
      | (refine is_cons ?_; first
          | (refine is_mv ?_; first | refine mv_val rfl ?_)
          | (refine is_as ?_; first | refine as_val rfl ?_ | refine as_new rfl rfl ?_)
          | (refine is_mi ?_; first | refine mi_val rfl ?_)
          | (refine is_cf 45 ?_; refine cf (f45_code a c) rfl ⟨.inl rfl, .inl rfl, trivial⟩ ?_))
      | refine rl_nil ?_
      | (refine is_aw ?_; first
          | refine aw_seq ?_
          | refine aw_scope ?_
          | refine aw_reg rfl ?_
          | refine aw_draw rfl ?_
          | refine aw_condT rfl ?_
          | refine aw_condF rfl ?_
          | (refine aw_condN rfl ?_ ?_ <;> (intro h; subst h))
          | (refine aw_cond rfl ?_ ?_ <;> (intro h; subst h))
          | refine aw_skip ?_
          | refine aw_ret ?_
          | refine aw_exit ?_
          | refine aw_block ?_
          | refine aw_label ?_)
      | refine tq_n ?_
      | refine ng_n ?_
      | refine ng_r ?_
      | refine ng_x ?_
      | refine ⟨(rfl : regOk _ _ = true), ?_⟩
      | refine tq_r ?_
      | refine tq_x ?_
      | refine bq_n ?_
      | refine bq_x ?_
      | refine bq_r ?_
      | refine bq_o rfl ?_
      | refine fq_r rfl ?_
      | refine fq_n rfl ?_)
  all_goals rfl
end Go.Proofs.Ytehhgamkijkjgaa.AM.TT
-- tt
namespace Go.Proofs.Ytehhgamkijkjgaa.AM.TT
open Go Go.Proofs.Ytehhgamkijkjgaa.AM Go.Proofs
set_option linter.unusedSimpArgs false
set_option linter.unusedVariables false
set_option maxHeartbeats 1000000
attribute [local irreducible] RunL AWp StepK OpK thenQ blockQ noGotoQ fnQ fnEQ
def mergeR (v : LView) : Rec := { noRec with kind := 6, key := v.low, high := v.high, unb := v.unb, right := v.right, rows := v.rows }
theorem enter23 : EnterOk Try.prog 23 := EnterOk_of (fn := Try.f23) (by kernel_rfl) (by kernel_rfl) (by kernel_rfl)
theorem f23_calls (v : LView) : CallsD Try.prog 23 [.agg (ev v)] (.agg (ec (baseR v))) := by
  refine CallsD_bd enter23 fun hbd => CallsD_of good mixed (fn := Try.f23) (by kernel_rfl) rfl enter23 (Nat.le_of_ble_eq_true rfl) ?_
  show AWp _ _ _ _ _ ⟨[(0, _)], [], [], 0⟩
  repeat' (first
      | (refine is_cons ?_; first
          | (refine is_ld ?_; first | refine ld_load rfl (by first | refine lookM_hd | exact lookM_sl rfl lookM_hd | (repeat (first | refine lookM_hd | refine lookM_sl rfl ?_))) rfl (by (try simp only [nfA, Nat.reduceAdd]) <;> apply rfl) ?_ | refine ld_valn rfl (by (try simp only [nfA, Nat.reduceAdd]) <;> apply rfl) ?_)
          | (refine is_fa ?_; first | refine fa_valn rfl (by (try simp only [nfA, Nat.reduceAdd]) <;> apply rfl) ?_)
          | (refine is_al ?_; first | refine al_alloc rfl (by (try simp only [nfA, Nat.reduceAdd]) <;> apply rfl) ?_)
          | (refine is_bx ?_; first | refine bx_alloc rfl (by (try simp only [nfA, Nat.reduceAdd]) <;> apply rfl) ?_)
          | (refine is_st ?_; first | refine st_store rfl (by first | refine lookM_hd | exact lookM_sl rfl lookM_hd | (repeat (first | refine lookM_hd | refine lookM_sl rfl ?_))) rfl (by (try simp only [nfA, Nat.reduceAdd]) <;> apply rfl) ?_)
          | (refine is_bd ?_; first | refine bd_valn rfl (by (try simp only [nfA, Nat.reduceAdd]) <;> apply rfl) ?_))
      | refine rl_nil ?_
      | (refine is_aw ?_; first
          | refine aw_seq ?_
          | refine aw_scope ?_
          | refine aw_reg rfl ?_
          | refine aw_draw rfl ?_
          | refine aw_condT rfl ?_
          | refine aw_condF rfl ?_
          | (refine aw_condN rfl ?_ ?_ <;> (intro h; subst h))
          | (refine aw_cond rfl ?_ ?_ <;> (intro h; subst h))
          | refine aw_skip ?_
          | refine aw_ret ?_
          | refine aw_exit ?_
          | refine aw_block ?_
          | refine aw_label ?_)
      | refine tq_n ?_
      | refine ng_n ?_
      | refine ng_r ?_
      | refine ng_x ?_
      | refine ⟨(rfl : regOk _ _ = true), ?_⟩
      | refine tq_r ?_
      | refine tq_x ?_
      | refine bq_n ?_
      | refine bq_x ?_
      | refine bq_r ?_
      | refine bq_o rfl ?_
      | refine fq_r rfl ?_
      | refine fq_n rfl ?_)
  all_goals rfl
theorem enter19 : EnterOk Try.prog 19 := EnterOk_of (fn := Try.f19) (by kernel_rfl) (by kernel_rfl) (by kernel_rfl)
theorem f19_calls (v : LView) : CallsD Try.prog 19 [.agg (ev v)] (.tup [.agg (ec (if v.gone then mergeR v else noRec)), .bool v.gone]) := by
  refine CallsD_bd enter19 fun hbd => CallsD_of good mixed (fn := Try.f19) (by kernel_rfl) rfl enter19 (Nat.le_of_ble_eq_true rfl) ?_
  show AWp _ _ _ _ _ ⟨[(0, _)], [], [], 0⟩
  obtain ⟨lo, hi, un, ri, ro, go⟩ := v
  repeat' (first
      | (refine is_cons ?_; first
          | (refine is_ld ?_; first | refine ld_load rfl (by first | refine lookM_hd | exact lookM_sl rfl lookM_hd | (repeat (first | refine lookM_hd | refine lookM_sl rfl ?_))) rfl (by (try simp only [nfA, Nat.reduceAdd]) <;> apply rfl) ?_ | refine ld_valn rfl (by (try simp only [nfA, Nat.reduceAdd]) <;> apply rfl) ?_)
          | (refine is_fa ?_; first | refine fa_valn rfl (by (try simp only [nfA, Nat.reduceAdd]) <;> apply rfl) ?_)
          | (refine is_as ?_; first | refine as_val rfl ?_ | refine as_new rfl rfl ?_)
          | (refine is_st ?_; first | refine st_store rfl (by first | refine lookM_hd | exact lookM_sl rfl lookM_hd | (repeat (first | refine lookM_hd | refine lookM_sl rfl ?_))) rfl (by (try simp only [nfA, Nat.reduceAdd]) <;> apply rfl) ?_)
          | (refine is_bd ?_; first | refine bd_valn rfl (by (try simp only [nfA, Nat.reduceAdd]) <;> apply rfl) ?_)
          | (refine is_al ?_; first | refine al_alloc rfl (by (try simp only [nfA, Nat.reduceAdd]) <;> apply rfl) ?_)
          | (refine is_bx ?_; first | refine bx_alloc rfl (by (try simp only [nfA, Nat.reduceAdd]) <;> apply rfl) ?_)
          | (refine is_uo ?_; first | refine uo_val rfl ?_))
      | refine rl_nil ?_
      | (refine is_aw ?_; first
          | refine aw_seq ?_
          | refine aw_scope ?_
          | refine aw_reg rfl ?_
          | refine aw_draw rfl ?_
          | refine aw_condT rfl ?_
          | refine aw_condF rfl ?_
          | (refine aw_condN rfl ?_ ?_ <;> (intro h; subst h))
          | (refine aw_cond rfl ?_ ?_ <;> (intro h; subst h))
          | refine aw_skip ?_
          | refine aw_ret ?_
          | refine aw_exit ?_
          | refine aw_block ?_
          | refine aw_label ?_)
      | refine tq_n ?_
      | refine ng_n ?_
      | refine ng_r ?_
      | refine ng_x ?_
      | refine ⟨(rfl : regOk _ _ = true), ?_⟩
      | refine tq_r ?_
      | refine tq_x ?_
      | refine bq_n ?_
      | refine bq_x ?_
      | refine bq_r ?_
      | refine bq_o rfl ?_
      | refine fq_r rfl ?_
      | refine fq_n rfl ?_)
  all_goals rfl
theorem enter25 : EnterOk Try.prog 25 := EnterOk_of (fn := Try.f25) (by kernel_rfl) (by kernel_rfl) (by kernel_rfl)
theorem f25_calls (v : LView) : CallsD Try.prog 25 [.agg (ev v)] (.agg (ev v)) := by
  refine CallsD_bd enter25 fun hbd => CallsD_of good mixed (fn := Try.f25) (by kernel_rfl) rfl enter25 (Nat.le_of_ble_eq_true rfl) ?_
  show AWp _ _ _ _ _ ⟨[(0, _)], [], [], 0⟩
  repeat' (first
      | (refine is_cons ?_; first
          | (refine is_ld ?_; first | refine ld_load rfl (by first | refine lookM_hd | exact lookM_sl rfl lookM_hd | (repeat (first | refine lookM_hd | refine lookM_sl rfl ?_))) rfl (by (try simp only [nfA, Nat.reduceAdd]) <;> apply rfl) ?_ | refine ld_valn rfl (by (try simp only [nfA, Nat.reduceAdd]) <;> apply rfl) ?_)
          | (refine is_fa ?_; first | refine fa_valn rfl (by (try simp only [nfA, Nat.reduceAdd]) <;> apply rfl) ?_)
          | (refine is_al ?_; first | refine al_alloc rfl (by (try simp only [nfA, Nat.reduceAdd]) <;> apply rfl) ?_)
          | (refine is_bx ?_; first | refine bx_alloc rfl (by (try simp only [nfA, Nat.reduceAdd]) <;> apply rfl) ?_)
          | (refine is_st ?_; first | refine st_store rfl (by first | refine lookM_hd | exact lookM_sl rfl lookM_hd | (repeat (first | refine lookM_hd | refine lookM_sl rfl ?_))) rfl (by (try simp only [nfA, Nat.reduceAdd]) <;> apply rfl) ?_)
          | (refine is_bd ?_; first | refine bd_valn rfl (by (try simp only [nfA, Nat.reduceAdd]) <;> apply rfl) ?_))
      | refine rl_nil ?_
      | (refine is_aw ?_; first
          | refine aw_seq ?_
          | refine aw_scope ?_
          | refine aw_reg rfl ?_
          | refine aw_draw rfl ?_
          | refine aw_condT rfl ?_
          | refine aw_condF rfl ?_
          | (refine aw_condN rfl ?_ ?_ <;> (intro h; subst h))
          | (refine aw_cond rfl ?_ ?_ <;> (intro h; subst h))
          | refine aw_skip ?_
          | refine aw_ret ?_
          | refine aw_exit ?_
          | refine aw_block ?_
          | refine aw_label ?_)
      | refine tq_n ?_
      | refine ng_n ?_
      | refine ng_r ?_
      | refine ng_x ?_
      | refine ⟨(rfl : regOk _ _ = true), ?_⟩
      | refine tq_r ?_
      | refine tq_x ?_
      | refine bq_n ?_
      | refine bq_x ?_
      | refine bq_r ?_
      | refine bq_o rfl ?_
      | refine fq_r rfl ?_
      | refine fq_n rfl ?_)
  all_goals rfl
theorem enter13 : EnterOk Try.prog 13 := EnterOk_of (fn := Try.f13) (by kernel_rfl) (by kernel_rfl) (by kernel_rfl)
theorem f13_calls (v : LView) (hs : v.rows.length ≤ 1000000) : CallsD Try.prog 13 [.agg (ev v)] (.agg (ev v)) := by
  refine CallsD_bd enter13 fun hbd => CallsD_of good mixed (fn := Try.f13) (by kernel_rfl) rfl enter13 (Nat.le_of_ble_eq_true rfl) ?_
  show AWp _ _ _ _ _ ⟨[(0, _)], [], [], 0⟩
  repeat' (first
      | (refine is_cons ?_; first
          | (refine is_ld ?_; first | refine ld_load rfl (by first | refine lookM_hd | exact lookM_sl rfl lookM_hd | (repeat (first | refine lookM_hd | refine lookM_sl rfl ?_))) rfl (by (try simp only [nfA, Nat.reduceAdd]) <;> apply rfl) ?_ | refine ld_valn rfl (by (try simp only [nfA, Nat.reduceAdd]) <;> apply rfl) ?_)
          | (refine is_fa ?_; first | refine fa_valn rfl (by (try simp only [nfA, Nat.reduceAdd]) <;> apply rfl) ?_)
          | (refine is_al ?_; first | refine al_alloc rfl (by (try simp only [nfA, Nat.reduceAdd]) <;> apply rfl) ?_)
          | (refine is_bx ?_; first | refine bx_alloc rfl (by (try simp only [nfA, Nat.reduceAdd]) <;> apply rfl) ?_)
          | (refine is_st ?_; first | refine st_store rfl (by first | refine lookM_hd | exact lookM_sl rfl lookM_hd | (repeat (first | refine lookM_hd | refine lookM_sl rfl ?_))) rfl (by (try simp only [nfA, Nat.reduceAdd]) <;> apply rfl) ?_)
          | (refine is_bd ?_; first | refine bd_valn rfl (by (try simp only [nfA, Nat.reduceAdd]) <;> apply rfl) ?_)
          | (refine is_bs ?_; first | refine bs_new rfl (by (try simp only [nfA, Nat.reduceAdd]) <;> apply rfl) ?_)
          | (refine is_bi ?_; first | refine bi_val rfl ?_ | refine bi_own rfl (by first | refine lookB_hd | exact lookB_tt lookB_hd | (repeat (first | refine lookB_hd | refine lookB_sl rfl ?_))) ?_ ?_ | refine bi_needN rfl ?_ ?_ | (refine bi_gated rfl (by (try simp only [nfA, Nat.reduceAdd]) <;> apply rfl) ?_; intro _)))
      | refine rl_nil ?_
      | (refine is_aw ?_; first
          | refine aw_seq ?_
          | refine aw_scope ?_
          | refine aw_reg rfl ?_
          | refine aw_draw rfl ?_
          | refine aw_condT rfl ?_
          | refine aw_condF rfl ?_
          | (refine aw_condN rfl ?_ ?_ <;> (intro h; subst h))
          | (refine aw_cond rfl ?_ ?_ <;> (intro h; subst h))
          | refine aw_skip ?_
          | refine aw_ret ?_
          | refine aw_exit ?_
          | refine aw_block ?_
          | refine aw_label ?_)
      | refine tq_n ?_
      | refine ng_n ?_
      | refine ng_r ?_
      | refine ng_x ?_
      | refine ⟨(rfl : regOk _ _ = true), ?_⟩
      | refine tq_r ?_
      | refine tq_x ?_
      | refine bq_n ?_
      | refine bq_x ?_
      | refine bq_r ?_
      | refine bq_o rfl ?_
      | refine fq_r rfl ?_
      | refine fq_n rfl ?_)
  all_goals first
    | (simp only [maxLen_eq, List.length_append, List.length_map, List.length_nil]; omega)
    | (simp [normD, norm1, ev]; done)
    | rfl
theorem enter46 : EnterOk Try.prog 46 := EnterOk_of (fn := Try.f46) (by kernel_rfl) (by kernel_rfl) (by kernel_rfl)
theorem f46_calls (l : List Row) : CallsD Try.prog 46 [.lst 2 (ers l), .lst 2 (ers l)] (.bool true) := by
  refine CallsD_bd enter46 fun hbd => CallsD_of good mixed (fn := Try.f46) (by kernel_rfl) rfl enter46 (Nat.le_of_ble_eq_true rfl) ?_
  show AWp _ _ _ _ _ ⟨[(0, _), (1, _)], [], [], 0⟩
  repeat' (first
      | (refine is_cons ?_; first
          | (refine is_g ?_; first | refine rl_on rfl rfl ?_ | refine rl_off rfl rfl ?_ | refine rl_offU rfl ?_ | (refine rl_case rfl ?_ ?_ <;> (intro h; first | subst h | (simp only [Bool.not_eq_true', Bool.not_eq_false'] at h; subst h))))
          | (refine is_mv ?_; first | refine mv_val rfl ?_)
          | (refine is_as ?_; first | refine as_val rfl ?_ | refine as_new rfl rfl ?_)
          | (refine is_bo ?_; first | refine rl_binT rfl ?_ | refine rl_binF rfl ?_ | (refine rl_binB rfl ?_; intro _ _) | (refine rl_half rfl (by (try simp only [maxLen_eq, List.length_map, decide_eq_true_eq, decide_eq_false_iff_not] at *); omega) ?_) | (refine rl_binW rfl (by (try simp only [maxLen_eq, List.length_map, decide_eq_true_eq, decide_eq_false_iff_not] at *); omega) ?_) | refine bo_val rfl ?_)
          | (refine is_ld ?_; first | refine ld_load rfl (by first | refine lookM_hd | exact lookM_sl rfl lookM_hd | (repeat (first | refine lookM_hd | refine lookM_sl rfl ?_))) rfl (by (try simp only [nfA, Nat.reduceAdd]) <;> apply rfl) ?_ | refine ld_valn rfl (by (try simp only [nfA, Nat.reduceAdd]) <;> apply rfl) ?_)
          | (refine is_fa ?_; first | refine fa_valn rfl (by (try simp only [nfA, Nat.reduceAdd]) <;> apply rfl) ?_)
          | (refine is_ia ?_; first | (refine ia_elt rfl ?_ (fun _ _ => ?_)))
          | (refine is_pk ?_; first | refine pk_twoT rfl rfl ?_ | refine pk_twoF rfl rfl ?_ | (refine pk_case rfl ?_ ?_ <;> (intro h; subst h)))
          | (refine is_bi ?_; first | refine bi_val rfl ?_ | refine bi_own rfl (by first | refine lookB_hd | exact lookB_tt lookB_hd | (repeat (first | refine lookB_hd | refine lookB_sl rfl ?_))) ?_ ?_ | refine bi_needN rfl ?_ ?_ | (refine bi_gated rfl (by (try simp only [nfA, Nat.reduceAdd]) <;> apply rfl) ?_; intro _)))
      | refine rl_nil ?_
      | (refine is_aw ?_; first
          | refine aw_seq ?_
          | refine aw_scope ?_
          | refine aw_reg rfl ?_
          | refine aw_draw rfl ?_
          | refine aw_condT rfl ?_
          | refine aw_condF rfl ?_
          | (refine aw_condN rfl ?_ ?_ <;> (intro h; subst h))
          | (refine aw_cond rfl ?_ ?_ <;> (intro h; subst h))
          | refine aw_skip ?_
          | refine aw_ret ?_
          | refine aw_exit ?_
          | refine aw_block ?_
          | refine aw_label ?_)
      | refine tq_n ?_
      | refine ng_n ?_
      | refine ng_r ?_
      | refine ng_x ?_
      | refine ⟨(rfl : regOk _ _ = true), ?_⟩
      | refine tq_r ?_
      | refine tq_x ?_
      | refine bq_n ?_
      | refine bq_x ?_
      | refine bq_r ?_
      | refine bq_o rfl ?_
      | refine fq_r rfl ?_
      | refine fq_n rfl ?_)
  all_goals try (simp only [maxLen_eq, List.length_map, decide_eq_true_eq, decide_eq_false_iff_not, Int.toNat_natCast, Bool.not_eq_true', Bool.not_eq_false', Bool.not_eq_true, Bool.not_eq_false] at *; omega)
  all_goals try (rename_i h; simp at h; done)
  refine aw_loopX (fun (n : Nat) e => ⟨[(5, .dat (I n)), (0, .dat (.lst 2 (ers l))), (1, .dat (.lst 2 (ers l)))], [], [], e⟩) (fun n => n ≤ l.length) (fun n => l.length - n) 0 _ (le_of ⟨rfl, rfl, rfl, trivial⟩ trivial trivial (Nat.le_refl _)) (by simp) ?_
  intro n e hn
  repeat' (first
      | (refine is_cons ?_; first
          | (refine is_g ?_; first | refine rl_on rfl rfl ?_ | refine rl_off rfl rfl ?_ | refine rl_offU rfl ?_ | (refine rl_case rfl ?_ ?_ <;> (intro h; first | subst h | (simp only [Bool.not_eq_true', Bool.not_eq_false'] at h; subst h))))
          | (refine is_mv ?_; first | refine mv_val rfl ?_)
          | (refine is_as ?_; first | refine as_val rfl ?_ | refine as_new rfl rfl ?_)
          | (refine is_bo ?_; first | refine rl_binT rfl ?_ | refine rl_binF rfl ?_ | (refine rl_binB rfl ?_; intro _ _) | (refine rl_half rfl (by (try simp only [maxLen_eq, List.length_map, decide_eq_true_eq, decide_eq_false_iff_not] at *); omega) ?_) | (refine rl_binW rfl (by (try simp only [maxLen_eq, List.length_map, decide_eq_true_eq, decide_eq_false_iff_not] at *); omega) ?_) | refine bo_val rfl ?_)
          | (refine is_ld ?_; first | refine ld_load rfl (by first | refine lookM_hd | exact lookM_sl rfl lookM_hd | (repeat (first | refine lookM_hd | refine lookM_sl rfl ?_))) rfl (by (try simp only [nfA, Nat.reduceAdd]) <;> apply rfl) ?_ | refine ld_valn rfl (by (try simp only [nfA, Nat.reduceAdd]) <;> apply rfl) ?_)
          | (refine is_fa ?_; first | refine fa_valn rfl (by (try simp only [nfA, Nat.reduceAdd]) <;> apply rfl) ?_)
          | (refine is_ia ?_; first | (refine ia_elt rfl ?_ (fun _ _ => ?_)))
          | (refine is_pk ?_; first | refine pk_twoT rfl rfl ?_ | refine pk_twoF rfl rfl ?_ | (refine pk_case rfl ?_ ?_ <;> (intro h; subst h)))
          | (refine is_bi ?_; first | refine bi_val rfl ?_ | refine bi_own rfl (by first | refine lookB_hd | exact lookB_tt lookB_hd | (repeat (first | refine lookB_hd | refine lookB_sl rfl ?_))) ?_ ?_ | refine bi_needN rfl ?_ ?_ | (refine bi_gated rfl (by (try simp only [nfA, Nat.reduceAdd]) <;> apply rfl) ?_; intro _)))
      | refine rl_nil ?_
      | (refine is_aw ?_; first
          | refine aw_seq ?_
          | refine aw_scope ?_
          | refine aw_reg rfl ?_
          | refine aw_draw rfl ?_
          | refine aw_condT rfl ?_
          | refine aw_condF rfl ?_
          | (refine aw_condN rfl ?_ ?_ <;> (intro h; subst h))
          | (refine aw_cond rfl ?_ ?_ <;> (intro h; subst h))
          | refine aw_skip ?_
          | refine aw_ret ?_
          | refine aw_exit ?_
          | refine aw_block ?_
          | refine aw_label ?_)
      | refine tq_n ?_
      | refine ng_n ?_
      | refine ng_r ?_
      | refine ng_x ?_
      | refine ⟨(rfl : regOk _ _ = true), ?_⟩
      | refine tq_r ?_
      | refine tq_x ?_
      | refine bq_n ?_
      | refine bq_x ?_
      | refine bq_r ?_
      | refine bq_o rfl ?_
      | refine fq_r rfl ?_
      | refine fq_n rfl ?_)
  all_goals try (simp only [maxLen_eq, List.length_map, decide_eq_true_eq, decide_eq_false_iff_not, Int.toNat_natCast, Bool.not_eq_true', Bool.not_eq_false', Bool.not_eq_true, Bool.not_eq_false] at *; omega)
  all_goals first
    | rfl
    | (exfalso; simp only [maxLen_eq, List.length_map, decide_eq_true_eq, decide_eq_false_iff_not, Int.toNat_natCast, Bool.not_eq_true', Bool.not_eq_false', Bool.not_eq_true, Bool.not_eq_false] at *; simp_all; done)
    | (simp only [maxLen_eq, List.length_map, decide_eq_true_eq, decide_eq_false_iff_not, Int.toNat_natCast, Bool.not_eq_true', Bool.not_eq_false', Bool.not_eq_true, Bool.not_eq_false] at *
       exact ⟨n + 1, _, by omega, le_of ⟨rfl, rfl, rfl, trivial⟩ trivial trivial (Nat.le_refl _), by omega⟩)
    | skip
theorem enter24 : EnterOk Try.prog 24 := EnterOk_of (fn := Try.f24) (by kernel_rfl) (by kernel_rfl) (by kernel_rfl)
theorem f24_calls (v : LView) : CallsD Try.prog 24 [.agg (ev v), .agg (ev v)] (.bool true) := by
  refine CallsD_bd enter24 fun hbd => CallsD_of good mixed (fn := Try.f24) (by kernel_rfl) rfl enter24 (Nat.le_of_ble_eq_true rfl) ?_
  show AWp _ _ _ _ _ ⟨[(0, _), (1, _)], [], [], 0⟩
  obtain ⟨lo, hi, un, ri, ro, go⟩ := v
  repeat' (first
      | (refine is_cons ?_; first
          | (refine is_g ?_; first | refine rl_on rfl rfl ?_ | refine rl_off rfl rfl ?_ | refine rl_offU rfl ?_ | (refine rl_case rfl ?_ ?_ <;> (intro h; first | subst h | (simp only [Bool.not_eq_true', Bool.not_eq_false'] at h; subst h))))
          | (refine is_ld ?_; first | refine ld_load rfl (by first | refine lookM_hd | exact lookM_sl rfl lookM_hd | (repeat (first | refine lookM_hd | refine lookM_sl rfl ?_))) rfl (by (try simp only [nfA, Nat.reduceAdd]) <;> apply rfl) ?_ | refine ld_valn rfl (by (try simp only [nfA, Nat.reduceAdd]) <;> apply rfl) ?_)
          | (refine is_fa ?_; first | refine fa_valn rfl (by (try simp only [nfA, Nat.reduceAdd]) <;> apply rfl) ?_)
          | (refine is_mv ?_; first | refine mv_val rfl ?_)
          | (refine is_bo ?_; first | refine rl_binT rfl ?_ | refine rl_binF rfl ?_ | (refine rl_binB rfl ?_; intro _ _) | (refine rl_half rfl (by (try simp only [maxLen_eq, List.length_map, decide_eq_true_eq, decide_eq_false_iff_not] at *); omega) ?_) | (refine rl_binW rfl (by (try simp only [maxLen_eq, List.length_map, decide_eq_true_eq, decide_eq_false_iff_not] at *); omega) ?_) | refine bo_val rfl ?_)
          | (refine is_pk ?_; first | refine pk_twoT rfl rfl ?_ | refine pk_twoF rfl rfl ?_ | (refine pk_case rfl ?_ ?_ <;> (intro h; subst h)))
          | (refine is_as ?_; first | refine as_val rfl ?_ | refine as_new rfl rfl ?_)
          | (refine is_bx ?_; first | refine bx_alloc rfl (by (try simp only [nfA, Nat.reduceAdd]) <;> apply rfl) ?_)
          | (refine is_cf 46 ?_; refine cf (f46_calls ro) rfl ⟨.inl rfl, .inl rfl, trivial⟩ ?_))
      | refine rl_nil ?_
      | (refine is_aw ?_; first
          | refine aw_seq ?_
          | refine aw_scope ?_
          | refine aw_reg rfl ?_
          | refine aw_draw rfl ?_
          | refine aw_condT rfl ?_
          | refine aw_condF rfl ?_
          | (refine aw_condN rfl ?_ ?_ <;> (intro h; subst h))
          | (refine aw_cond rfl ?_ ?_ <;> (intro h; subst h))
          | refine aw_skip ?_
          | refine aw_ret ?_
          | refine aw_exit ?_
          | refine aw_block ?_
          | refine aw_label ?_)
      | refine tq_n ?_
      | refine ng_n ?_
      | refine ng_r ?_
      | refine ng_x ?_
      | refine ⟨(rfl : regOk _ _ = true), ?_⟩
      | refine tq_r ?_
      | refine tq_x ?_
      | refine bq_n ?_
      | refine bq_x ?_
      | refine bq_r ?_
      | refine bq_o rfl ?_
      | refine fq_r rfl ?_
      | refine fq_n rfl ?_)
  all_goals first
    | rfl
    | (exfalso; simp at *; done)
    | skip
theorem enter21 : EnterOk Try.prog 21 := EnterOk_of (fn := Try.f21) (by kernel_rfl) (by kernel_rfl) (by kernel_rfl)
theorem f21_calls (r : Rec) : CallsD Try.prog 21 [.agg (ec r), .agg (ec r)] (.bool true) := by
  refine CallsD_bd enter21 fun hbd => CallsD_of good mixed (fn := Try.f21) (by kernel_rfl) rfl enter21 (Nat.le_of_ble_eq_true rfl) ?_
  show AWp _ _ _ _ _ ⟨[(0, _), (1, _)], [], [], 0⟩
  repeat' (first
      | (refine is_cons ?_; first
          | (refine is_g ?_; first | refine rl_on rfl rfl ?_ | refine rl_off rfl rfl ?_ | refine rl_offU rfl ?_ | (refine rl_case rfl ?_ ?_ <;> (intro h; first | subst h | (simp only [Bool.not_eq_true', Bool.not_eq_false'] at h; subst h))))
          | (refine is_ld ?_; first | refine ld_load rfl (by first | refine lookM_hd | exact lookM_sl rfl lookM_hd | (repeat (first | refine lookM_hd | refine lookM_sl rfl ?_))) rfl (by (try simp only [nfA, Nat.reduceAdd]) <;> apply rfl) ?_ | refine ld_valn rfl (by (try simp only [nfA, Nat.reduceAdd]) <;> apply rfl) ?_)
          | (refine is_fa ?_; first | refine fa_valn rfl (by (try simp only [nfA, Nat.reduceAdd]) <;> apply rfl) ?_)
          | (refine is_bo ?_; first | refine rl_binT rfl ?_ | refine rl_binF rfl ?_ | (refine rl_binB rfl ?_; intro _ _) | (refine rl_half rfl (by (try simp only [maxLen_eq, List.length_map, decide_eq_true_eq, decide_eq_false_iff_not] at *); omega) ?_) | (refine rl_binW rfl (by (try simp only [maxLen_eq, List.length_map, decide_eq_true_eq, decide_eq_false_iff_not] at *); omega) ?_) | refine bo_val rfl ?_)
          | (refine is_mv ?_; first | refine mv_val rfl ?_)
          | (refine is_as ?_; first | refine as_val rfl ?_ | refine as_new rfl rfl ?_)
          | (refine is_pk ?_; first | refine pk_twoT rfl rfl ?_ | refine pk_twoF rfl rfl ?_ | (refine pk_case rfl ?_ ?_ <;> (intro h; subst h)))
          | (refine is_ia ?_; first | (refine ia_elt rfl ?_ (fun _ _ => ?_)))
          | (refine is_bx ?_; first | refine bx_alloc rfl (by (try simp only [nfA, Nat.reduceAdd]) <;> apply rfl) ?_)
          | (refine is_bi ?_; first | refine bi_val rfl ?_ | refine bi_own rfl (by first | refine lookB_hd | exact lookB_tt lookB_hd | (repeat (first | refine lookB_hd | refine lookB_sl rfl ?_))) ?_ ?_ | refine bi_needN rfl ?_ ?_ | (refine bi_gated rfl (by (try simp only [nfA, Nat.reduceAdd]) <;> apply rfl) ?_; intro _)))
      | refine rl_nil ?_
      | (refine is_aw ?_; first
          | refine aw_seq ?_
          | refine aw_scope ?_
          | refine aw_reg rfl ?_
          | refine aw_draw rfl ?_
          | refine aw_condT rfl ?_
          | refine aw_condF rfl ?_
          | (refine aw_condN rfl ?_ ?_ <;> (intro h; subst h))
          | (refine aw_cond rfl ?_ ?_ <;> (intro h; subst h))
          | refine aw_skip ?_
          | refine aw_ret ?_
          | refine aw_exit ?_
          | refine aw_block ?_
          | refine aw_label ?_)
      | refine tq_n ?_
      | refine ng_n ?_
      | refine ng_r ?_
      | refine ng_x ?_
      | refine ⟨(rfl : regOk _ _ = true), ?_⟩
      | refine tq_r ?_
      | refine tq_x ?_
      | refine bq_n ?_
      | refine bq_x ?_
      | refine bq_r ?_
      | refine bq_o rfl ?_
      | refine fq_r rfl ?_
      | refine fq_n rfl ?_)
  all_goals try (exfalso; simp at *; done)
  refine aw_loopX (fun (n : Nat) e => ⟨[(5, .dat (I n)), (2, .ptr (2, 0, 1) 0), (3, .ptr (3, 0, 1) 0)], [((2, 0, 1), (ec r).map .dat), ((3, 0, 1), (ec r).map .dat)], [], e⟩) (fun n => n ≤ r.rows.length) (fun n => r.rows.length - n) 0 _ (le_of ⟨rfl, rfl, rfl, trivial⟩ ⟨rfl, rfl, trivial⟩ trivial (Nat.le_refl _)) (by simp) ?_
  intro n e hn
  repeat' (first
      | (refine is_cons ?_; first
          | (refine is_g ?_; first | refine rl_on rfl rfl ?_ | refine rl_off rfl rfl ?_ | refine rl_offU rfl ?_ | (refine rl_case rfl ?_ ?_ <;> (intro h; first | subst h | (simp only [Bool.not_eq_true', Bool.not_eq_false'] at h; subst h))))
          | (refine is_ld ?_; first | refine ld_load rfl (by first | refine lookM_hd | exact lookM_sl rfl lookM_hd | (repeat (first | refine lookM_hd | refine lookM_sl rfl ?_))) rfl (by (try simp only [nfA, Nat.reduceAdd]) <;> apply rfl) ?_ | refine ld_valn rfl (by (try simp only [nfA, Nat.reduceAdd]) <;> apply rfl) ?_)
          | (refine is_fa ?_; first | refine fa_valn rfl (by (try simp only [nfA, Nat.reduceAdd]) <;> apply rfl) ?_)
          | (refine is_bo ?_; first | refine rl_binT rfl ?_ | refine rl_binF rfl ?_ | (refine rl_binB rfl ?_; intro _ _) | (refine rl_half rfl (by (try simp only [maxLen_eq, List.length_map, decide_eq_true_eq, decide_eq_false_iff_not] at *); omega) ?_) | (refine rl_binW rfl (by (try simp only [maxLen_eq, List.length_map, decide_eq_true_eq, decide_eq_false_iff_not] at *); omega) ?_) | refine bo_val rfl ?_)
          | (refine is_mv ?_; first | refine mv_val rfl ?_)
          | (refine is_as ?_; first | refine as_val rfl ?_ | refine as_new rfl rfl ?_)
          | (refine is_pk ?_; first | refine pk_twoT rfl rfl ?_ | refine pk_twoF rfl rfl ?_ | (refine pk_case rfl ?_ ?_ <;> (intro h; subst h)))
          | (refine is_ia ?_; first | (refine ia_elt rfl ?_ (fun _ _ => ?_)))
          | (refine is_bx ?_; first | refine bx_alloc rfl (by (try simp only [nfA, Nat.reduceAdd]) <;> apply rfl) ?_)
          | (refine is_bi ?_; first | refine bi_val rfl ?_ | refine bi_own rfl (by first | refine lookB_hd | exact lookB_tt lookB_hd | (repeat (first | refine lookB_hd | refine lookB_sl rfl ?_))) ?_ ?_ | refine bi_needN rfl ?_ ?_ | (refine bi_gated rfl (by (try simp only [nfA, Nat.reduceAdd]) <;> apply rfl) ?_; intro _)))
      | refine rl_nil ?_
      | (refine is_aw ?_; first
          | refine aw_seq ?_
          | refine aw_scope ?_
          | refine aw_reg rfl ?_
          | refine aw_draw rfl ?_
          | refine aw_condT rfl ?_
          | refine aw_condF rfl ?_
          | (refine aw_condN rfl ?_ ?_ <;> (intro h; subst h))
          | (refine aw_cond rfl ?_ ?_ <;> (intro h; subst h))
          | refine aw_skip ?_
          | refine aw_ret ?_
          | refine aw_exit ?_
          | refine aw_block ?_
          | refine aw_label ?_)
      | refine tq_n ?_
      | refine ng_n ?_
      | refine ng_r ?_
      | refine ng_x ?_
      | refine ⟨(rfl : regOk _ _ = true), ?_⟩
      | refine tq_r ?_
      | refine tq_x ?_
      | refine bq_n ?_
      | refine bq_x ?_
      | refine bq_r ?_
      | refine bq_o rfl ?_
      | refine fq_r rfl ?_
      | refine fq_n rfl ?_)
  all_goals try (simp only [maxLen_eq, List.length_map, decide_eq_true_eq, decide_eq_false_iff_not, Int.toNat_natCast, Bool.not_eq_true', Bool.not_eq_false', Bool.not_eq_true, Bool.not_eq_false] at *; omega)
  · rename_i hl x hx y hy hne
    exfalso
    rw [hx] at hy; cases hy
    simp at hne
  · rename_i hl x hx y hy hne
    simp only [maxLen_eq, List.length_map, decide_eq_true_eq, decide_eq_false_iff_not, Int.toNat_natCast, Bool.not_eq_true', Bool.not_eq_false', Bool.not_eq_true, Bool.not_eq_false] at *
    exact ⟨n + 1, _, by omega, le_of ⟨rfl, rfl, rfl, trivial⟩ ⟨rfl, rfl, trivial⟩ trivial (Nat.le_refl _), by omega⟩
  refine aw_loopX (fun (n : Nat) e => ⟨[(6, .dat (I n)), (2, .ptr (2, 0, 1) 0), (3, .ptr (3, 0, 1) 0)], [((2, 0, 1), (ec r).map .dat), ((3, 0, 1), (ec r).map .dat)], [], e⟩) (fun n => n ≤ r.ents.length) (fun n => r.ents.length - n) 0 _ (le_of ⟨rfl, rfl, rfl, trivial⟩ ⟨rfl, rfl, trivial⟩ trivial (Nat.le_refl _)) (by simp) ?_
  intro m e' hm
  repeat' (first
      | (refine is_cons ?_; first
          | (refine is_g ?_; first | refine rl_on rfl rfl ?_ | refine rl_off rfl rfl ?_ | refine rl_offU rfl ?_ | (refine rl_case rfl ?_ ?_ <;> (intro h; first | subst h | (simp only [Bool.not_eq_true', Bool.not_eq_false'] at h; subst h))))
          | (refine is_ld ?_; first | refine ld_load rfl (by first | refine lookM_hd | exact lookM_sl rfl lookM_hd | (repeat (first | refine lookM_hd | refine lookM_sl rfl ?_))) rfl (by (try simp only [nfA, Nat.reduceAdd]) <;> apply rfl) ?_ | refine ld_valn rfl (by (try simp only [nfA, Nat.reduceAdd]) <;> apply rfl) ?_)
          | (refine is_fa ?_; first | refine fa_valn rfl (by (try simp only [nfA, Nat.reduceAdd]) <;> apply rfl) ?_)
          | (refine is_bo ?_; first | refine rl_binT rfl ?_ | refine rl_binF rfl ?_ | (refine rl_binB rfl ?_; intro _ _) | (refine rl_half rfl (by (try simp only [maxLen_eq, List.length_map, decide_eq_true_eq, decide_eq_false_iff_not] at *); omega) ?_) | (refine rl_binW rfl (by (try simp only [maxLen_eq, List.length_map, decide_eq_true_eq, decide_eq_false_iff_not] at *); omega) ?_) | refine bo_val rfl ?_)
          | (refine is_mv ?_; first | refine mv_val rfl ?_)
          | (refine is_as ?_; first | refine as_val rfl ?_ | refine as_new rfl rfl ?_)
          | (refine is_pk ?_; first | refine pk_twoT rfl rfl ?_ | refine pk_twoF rfl rfl ?_ | (refine pk_case rfl ?_ ?_ <;> (intro h; subst h)))
          | (refine is_ia ?_; first | (refine ia_elt rfl ?_ (fun _ _ => ?_)))
          | (refine is_bx ?_; first | refine bx_alloc rfl (by (try simp only [nfA, Nat.reduceAdd]) <;> apply rfl) ?_)
          | (refine is_bi ?_; first | refine bi_val rfl ?_ | refine bi_own rfl (by first | refine lookB_hd | exact lookB_tt lookB_hd | (repeat (first | refine lookB_hd | refine lookB_sl rfl ?_))) ?_ ?_ | refine bi_needN rfl ?_ ?_ | (refine bi_gated rfl (by (try simp only [nfA, Nat.reduceAdd]) <;> apply rfl) ?_; intro _)))
      | refine rl_nil ?_
      | (refine is_aw ?_; first
          | refine aw_seq ?_
          | refine aw_scope ?_
          | refine aw_reg rfl ?_
          | refine aw_draw rfl ?_
          | refine aw_condT rfl ?_
          | refine aw_condF rfl ?_
          | (refine aw_condN rfl ?_ ?_ <;> (intro h; subst h))
          | (refine aw_cond rfl ?_ ?_ <;> (intro h; subst h))
          | refine aw_skip ?_
          | refine aw_ret ?_
          | refine aw_exit ?_
          | refine aw_block ?_
          | refine aw_label ?_)
      | refine tq_n ?_
      | refine ng_n ?_
      | refine ng_r ?_
      | refine ng_x ?_
      | refine ⟨(rfl : regOk _ _ = true), ?_⟩
      | refine tq_r ?_
      | refine tq_x ?_
      | refine bq_n ?_
      | refine bq_x ?_
      | refine bq_r ?_
      | refine bq_o rfl ?_
      | refine fq_r rfl ?_
      | refine fq_n rfl ?_)
  all_goals try (simp only [maxLen_eq, List.length_map, decide_eq_true_eq, decide_eq_false_iff_not, Int.toNat_natCast, Bool.not_eq_true', Bool.not_eq_false', Bool.not_eq_true, Bool.not_eq_false] at *; omega)
  all_goals first
    | (rename_i hl x hx y hy hne
       exfalso
       rw [hx] at hy; cases hy
       simp at hne
       done)
    | (rename_i hl x hx y hy hne
       simp only [maxLen_eq, List.length_map, decide_eq_true_eq, decide_eq_false_iff_not, Int.toNat_natCast, Bool.not_eq_true', Bool.not_eq_false', Bool.not_eq_true, Bool.not_eq_false] at *
       exact ⟨m + 1, _, by omega, le_of ⟨rfl, rfl, rfl, trivial⟩ ⟨rfl, rfl, trivial⟩ trivial (Nat.le_refl _), by omega⟩)
    | rfl
    | (exfalso; simp at *; done)
    | (rename_i b hb
       have hb2 : b = true := by rw [← hb]; simp
       rw [hb2]; rfl)
end Go.Proofs.Ytehhgamkijkjgaa.AM.TT
-- tt
namespace Go.Proofs.Ytehhgamkijkjgaa.AM.TT
open Go Go.Proofs.Ytehhgamkijkjgaa.AM Go.Proofs
set_option linter.unusedSimpArgs false
set_option linter.unusedVariables false
set_option maxHeartbeats 1000000
attribute [local irreducible] RunL AWp StepK OpK thenQ blockQ noGotoQ fnQ fnEQ
theorem enter68 : EnterOk Try.prog 68 := EnterOk_of (fn := Try.f68) (by kernel_rfl) (by kernel_rfl) (by kernel_rfl)
theorem f68_calls_ok (a b : Str) (h : lt a b = true) : CallsD Try.prog 68 [.str a, .str b] (.tup [.str (b.take (common a b + 1)), .bool true]) := by
  refine CallsD_bd enter68 fun hbd => CallsD_of good mixed (fn := Try.f68) (by kernel_rfl) rfl enter68 (Nat.le_of_ble_eq_true rfl) ?_
  show AWp _ _ _ _ _ ⟨[(0, _), (1, _)], [], [], 0⟩
  have hc55 := f55_calls a b
  rw [h] at hc55
  have hcl := common_lt2 h
  have hbl := (hbd (.str b) (by simp)).str
  have h55 : ∀ n, CallsD Try.prog 55 [.str a, .str (b.take n)] (.bool (decide (common a b + 1 ≤ n))) := by
    intro n
    have := f55_calls a (b.take n)
    rw [lt_take h n] at this
    exact this
  repeat' (first
      | (refine is_cons ?_; first
          | (refine is_mv ?_; first | refine mv_val rfl ?_)
          | (refine is_as ?_; first | refine as_val rfl ?_ | refine as_new rfl rfl ?_)
          | (refine is_uo ?_; first | refine uo_val rfl ?_)
          | (refine is_sl ?_; first | refine sl_need rfl (by (try simp only [nfA, Nat.reduceAdd]) <;> apply rfl) ?_ ?_)
          | (refine is_bo ?_; first | refine rl_binT rfl ?_ | refine rl_binF rfl ?_ | (refine rl_binB rfl ?_; intro _ _) | (refine rl_half rfl (by (try simp only [maxLen_eq, List.length_map, decide_eq_true_eq, decide_eq_false_iff_not] at *); omega) ?_) | (refine rl_binW rfl (by (try simp only [maxLen_eq, List.length_map, decide_eq_true_eq, decide_eq_false_iff_not] at *); omega) ?_) | refine bo_val rfl ?_)
          | (refine is_cf 55 ?_; refine cf hc55 rfl ⟨.inl rfl, .inl rfl, trivial⟩ ?_))
      | refine rl_nil ?_
      | (refine is_aw ?_; first
          | refine aw_seq ?_
          | refine aw_scope ?_
          | refine aw_reg rfl ?_
          | refine aw_draw rfl ?_
          | refine aw_condT rfl ?_
          | refine aw_condF rfl ?_
          | (refine aw_condN rfl ?_ ?_ <;> (intro h; subst h))
          | (refine aw_cond rfl ?_ ?_ <;> (intro h; subst h))
          | refine aw_skip ?_
          | refine aw_ret ?_
          | refine aw_exit ?_
          | refine aw_block ?_
          | refine aw_label ?_)
      | refine tq_n ?_
      | refine ng_n ?_
      | refine ng_r ?_
      | refine ng_x ?_
      | refine ⟨(rfl : regOk _ _ = true), ?_⟩
      | refine tq_r ?_
      | refine tq_x ?_
      | refine bq_n ?_
      | refine bq_x ?_
      | refine bq_r ?_
      | refine bq_o rfl ?_
      | refine fq_r rfl ?_
      | refine fq_n rfl ?_)
  refine aw_loopX (fun (n : Nat) e => ⟨[(6, .dat (I n)), (0, .dat (.str a)), (1, .dat (.str b))], [], [], e⟩) (fun n => n ≤ common a b + 1) (fun n => common a b + 1 - n) 0 _ (le_of ⟨rfl, rfl, rfl, trivial⟩ trivial trivial (Nat.le_refl _)) (by simp) ?_
  intro n e hn
  repeat' (first
      | (refine is_cons ?_; first
          | (refine is_mv ?_; first | refine mv_val rfl ?_)
          | (refine is_as ?_; first | refine as_val rfl ?_ | refine as_new rfl rfl ?_)
          | (refine is_uo ?_; first | refine uo_val rfl ?_)
          | (refine is_sl ?_; first | refine sl_need rfl (by (try simp only [nfA, Nat.reduceAdd]) <;> apply rfl) ?_ ?_)
          | (refine is_bo ?_; first | refine rl_binT rfl ?_ | refine rl_binF rfl ?_ | (refine rl_binB rfl ?_; intro _ _) | (refine rl_half rfl (by (try simp only [maxLen_eq, List.length_map, decide_eq_true_eq, decide_eq_false_iff_not] at *); omega) ?_) | (refine rl_binW rfl (by (try simp only [maxLen_eq, List.length_map, decide_eq_true_eq, decide_eq_false_iff_not] at *); omega) ?_) | refine bo_val rfl ?_)
          | (refine is_cf 55 ?_; refine cfB (h55 _) rfl ⟨.inl rfl, .inl rfl, trivial⟩ ?_; intro _ _))
      | refine rl_nil ?_
      | (refine is_aw ?_; first
          | refine aw_seq ?_
          | refine aw_scope ?_
          | refine aw_reg rfl ?_
          | refine aw_draw rfl ?_
          | refine aw_condT rfl ?_
          | refine aw_condF rfl ?_
          | (refine aw_condN rfl ?_ ?_ <;> (intro h; subst h))
          | (refine aw_cond rfl ?_ ?_ <;> (intro h; subst h))
          | refine aw_skip ?_
          | refine aw_ret ?_
          | refine aw_exit ?_
          | refine aw_block ?_
          | refine aw_label ?_)
      | refine tq_n ?_
      | refine ng_n ?_
      | refine ng_r ?_
      | refine ng_x ?_
      | refine ⟨(rfl : regOk _ _ = true), ?_⟩
      | refine tq_r ?_
      | refine tq_x ?_
      | refine bq_n ?_
      | refine bq_x ?_
      | refine bq_r ?_
      | refine bq_o rfl ?_
      | refine fq_r rfl ?_
      | refine fq_n rfl ?_)
  · omega
  · rename_i hc
    simp only [decide_eq_false_iff_not] at hc
    exact ⟨n + 1, _, by omega, le_of ⟨rfl, rfl, rfl, trivial⟩ trivial trivial (Nat.le_refl _), by omega⟩
  · omega
  · rename_i hc
    simp only [decide_eq_true_eq] at hc
    obtain rfl : n = common a b + 1 := by omega
    rfl
theorem f68_calls_no (a b : Str) (h : lt a b = false) : CallsD Try.prog 68 [.str a, .str b] (.tup [.str [], .bool false]) := by
  refine CallsD_bd enter68 fun hbd => CallsD_of good mixed (fn := Try.f68) (by kernel_rfl) rfl enter68 (Nat.le_of_ble_eq_true rfl) ?_
  show AWp _ _ _ _ _ ⟨[(0, _), (1, _)], [], [], 0⟩
  have hc55 := f55_calls a b
  rw [h] at hc55
  repeat' (first
      | (refine is_cons ?_; first
          | (refine is_mv ?_; first | refine mv_val rfl ?_)
          | (refine is_as ?_; first | refine as_val rfl ?_ | refine as_new rfl rfl ?_)
          | (refine is_uo ?_; first | refine uo_val rfl ?_)
          | (refine is_sl ?_; first | refine sl_need rfl (by (try simp only [nfA, Nat.reduceAdd]) <;> apply rfl) ?_ ?_)
          | (refine is_bo ?_; first | refine rl_binT rfl ?_ | refine rl_binF rfl ?_ | (refine rl_binB rfl ?_; intro _ _) | (refine rl_half rfl (by (try simp only [maxLen_eq, List.length_map, decide_eq_true_eq, decide_eq_false_iff_not] at *); omega) ?_) | (refine rl_binW rfl (by (try simp only [maxLen_eq, List.length_map, decide_eq_true_eq, decide_eq_false_iff_not] at *); omega) ?_) | refine bo_val rfl ?_)
          | (refine is_cf 55 ?_; refine cf hc55 rfl ⟨.inl rfl, .inl rfl, trivial⟩ ?_))
      | refine rl_nil ?_
      | (refine is_aw ?_; first
          | refine aw_seq ?_
          | refine aw_scope ?_
          | refine aw_reg rfl ?_
          | refine aw_draw rfl ?_
          | refine aw_condT rfl ?_
          | refine aw_condF rfl ?_
          | (refine aw_condN rfl ?_ ?_ <;> (intro h; subst h))
          | (refine aw_cond rfl ?_ ?_ <;> (intro h; subst h))
          | refine aw_skip ?_
          | refine aw_ret ?_
          | refine aw_exit ?_
          | refine aw_block ?_
          | refine aw_label ?_)
      | refine tq_n ?_
      | refine ng_n ?_
      | refine ng_r ?_
      | refine ng_x ?_
      | refine ⟨(rfl : regOk _ _ = true), ?_⟩
      | refine tq_r ?_
      | refine tq_x ?_
      | refine bq_n ?_
      | refine bq_x ?_
      | refine bq_r ?_
      | refine bq_o rfl ?_
      | refine fq_r rfl ?_
      | refine fq_n rfl ?_)
  all_goals rfl
theorem enter43 : EnterOk Try.prog 43 := EnterOk_of (fn := Try.f43) (by kernel_rfl) (by kernel_rfl) (by kernel_rfl)
theorem f43_calls_few (l : List Row) (h2 : l.length < 2) : CallsD Try.prog 43 [.lst 2 (ers l)] (.tup [.str [], .lst 2 [], .lst 2 [], .bool false]) := by
  refine CallsD_bd enter43 fun hbd => CallsD_of good mixed (fn := Try.f43) (by kernel_rfl) rfl enter43 (Nat.le_of_ble_eq_true rfl) ?_
  show AWp _ _ _ _ _ ⟨[(0, _)], [], [], 0⟩
  repeat' (first
      | (refine is_cons ?_; first
          | (refine is_as ?_; first | refine as_val rfl ?_ | refine as_new rfl rfl ?_)
          | (refine is_mv ?_; first | refine mv_val rfl ?_)
          | (refine is_bo ?_; first | refine rl_binT rfl ?_ | refine rl_binF rfl ?_ | (refine rl_binB rfl ?_; intro _ _) | (refine rl_half rfl (by (try simp only [maxLen_eq, List.length_map, decide_eq_true_eq, decide_eq_false_iff_not] at *); omega) ?_) | (refine rl_binW rfl (by (try simp only [maxLen_eq, List.length_map, decide_eq_true_eq, decide_eq_false_iff_not] at *); omega) ?_) | refine bo_val rfl ?_)
          | (refine is_ld ?_; first | refine ld_load rfl (by first | refine lookM_hd | exact lookM_sl rfl lookM_hd | (repeat (first | refine lookM_hd | refine lookM_sl rfl ?_))) rfl (by (try simp only [nfA, Nat.reduceAdd]) <;> apply rfl) ?_ | refine ld_valn rfl (by (try simp only [nfA, Nat.reduceAdd]) <;> apply rfl) ?_)
          | (refine is_fa ?_; first | refine fa_valn rfl (by (try simp only [nfA, Nat.reduceAdd]) <;> apply rfl) ?_)
          | (refine is_ex ?_; first | (refine rl_extB rfl ?_; intro _ _) | refine ex_valn rfl (by (try simp only [nfA, Nat.reduceAdd]) <;> apply rfl) ?_)
          | (refine is_ia ?_; first | (refine ia_elt rfl ?_ (fun _ _ => ?_)))
          | (refine is_sl ?_; first | refine sl_need rfl (by (try simp only [nfA, Nat.reduceAdd]) <;> apply rfl) ?_ ?_)
          | (refine is_uo ?_; first | refine uo_val rfl ?_)
          | (refine is_bi ?_; first | refine bi_val rfl ?_ | refine bi_own rfl (by first | refine lookB_hd | exact lookB_tt lookB_hd | (repeat (first | refine lookB_hd | refine lookB_sl rfl ?_))) ?_ ?_ | refine bi_needN rfl ?_ ?_ | (refine bi_gated rfl (by (try simp only [nfA, Nat.reduceAdd]) <;> apply rfl) ?_; intro _)))
      | refine rl_nil ?_
      | (refine is_aw ?_; first
          | refine aw_seq ?_
          | refine aw_scope ?_
          | refine aw_reg rfl ?_
          | refine aw_draw rfl ?_
          | refine aw_condT rfl ?_
          | refine aw_condF rfl ?_
          | (refine aw_condN rfl ?_ ?_ <;> (intro h; subst h))
          | (refine aw_cond rfl ?_ ?_ <;> (intro h; subst h))
          | refine aw_skip ?_
          | refine aw_ret ?_
          | refine aw_exit ?_
          | refine aw_block ?_
          | refine aw_label ?_)
      | refine tq_n ?_
      | refine ng_n ?_
      | refine ng_r ?_
      | refine ng_x ?_
      | refine ⟨(rfl : regOk _ _ = true), ?_⟩
      | refine tq_r ?_
      | refine tq_x ?_
      | refine bq_n ?_
      | refine bq_x ?_
      | refine bq_r ?_
      | refine bq_o rfl ?_
      | refine fq_r rfl ?_
      | refine fq_n rfl ?_)
  all_goals first
    | rfl
    | (exfalso; simp only [maxLen_eq, List.length_map, decide_eq_true_eq, decide_eq_false_iff_not, Int.toNat_natCast, Bool.not_eq_true', Bool.not_eq_false', Bool.not_eq_true, Bool.not_eq_false] at *; omega)
theorem f43_calls_ok (l : List Row) (a b : Row) (h2 : 2 ≤ l.length) (ha : l[l.length / 2 - 1]? = some a) (hb : l[l.length / 2]? = some b) (h : lt a.key b.key = true) : CallsD Try.prog 43 [.lst 2 (ers l)] (.tup [.str (b.key.take (common a.key b.key + 1)), .lst 2 (ers (l.take (l.length / 2))), .lst 2 (ers (l.drop (l.length / 2))), .bool true]) := by
  refine CallsD_bd enter43 fun hbd => CallsD_of good mixed (fn := Try.f43) (by kernel_rfl) rfl enter43 (Nat.le_of_ble_eq_true rfl) ?_
  show AWp _ _ _ _ _ ⟨[(0, _)], [], [], 0⟩
  repeat' (first
      | (refine is_cons ?_; first
          | (refine is_as ?_; first | refine as_val rfl ?_ | refine as_new rfl rfl ?_)
          | (refine is_mv ?_; first | refine mv_val rfl ?_)
          | (refine is_bo ?_; first | refine rl_binT rfl ?_ | refine rl_binF rfl ?_ | (refine rl_binB rfl ?_; intro _ _) | (refine rl_half rfl (by (try simp only [maxLen_eq, List.length_map, decide_eq_true_eq, decide_eq_false_iff_not] at *); omega) ?_) | (refine rl_binW rfl (by (try simp only [maxLen_eq, List.length_map, decide_eq_true_eq, decide_eq_false_iff_not] at *); omega) ?_) | refine bo_val rfl ?_)
          | (refine is_ld ?_; first | refine ld_load rfl (by first | refine lookM_hd | exact lookM_sl rfl lookM_hd | (repeat (first | refine lookM_hd | refine lookM_sl rfl ?_))) rfl (by (try simp only [nfA, Nat.reduceAdd]) <;> apply rfl) ?_ | refine ld_valn rfl (by (try simp only [nfA, Nat.reduceAdd]) <;> apply rfl) ?_)
          | (refine is_fa ?_; first | refine fa_valn rfl (by (try simp only [nfA, Nat.reduceAdd]) <;> apply rfl) ?_)
          | (refine is_ex ?_; first | (refine rl_extB rfl ?_; intro _ _) | refine ex_valn rfl (by (try simp only [nfA, Nat.reduceAdd]) <;> apply rfl) ?_)
          | (refine is_ia ?_; first | (refine ia_elt rfl ?_ (fun _ _ => ?_)))
          | (refine is_sl ?_; first | refine sl_need rfl (by (try simp only [nfA, Nat.reduceAdd]) <;> apply rfl) ?_ ?_)
          | (refine is_uo ?_; first | refine uo_val rfl ?_)
          | (refine is_bi ?_; first | refine bi_val rfl ?_ | refine bi_own rfl (by first | refine lookB_hd | exact lookB_tt lookB_hd | (repeat (first | refine lookB_hd | refine lookB_sl rfl ?_))) ?_ ?_ | refine bi_needN rfl ?_ ?_ | (refine bi_gated rfl (by (try simp only [nfA, Nat.reduceAdd]) <;> apply rfl) ?_; intro _)))
      | refine rl_nil ?_
      | (refine is_aw ?_; first
          | refine aw_seq ?_
          | refine aw_scope ?_
          | refine aw_reg rfl ?_
          | refine aw_draw rfl ?_
          | refine aw_condT rfl ?_
          | refine aw_condF rfl ?_
          | (refine aw_condN rfl ?_ ?_ <;> (intro h; subst h))
          | (refine aw_cond rfl ?_ ?_ <;> (intro h; subst h))
          | refine aw_skip ?_
          | refine aw_ret ?_
          | refine aw_exit ?_
          | refine aw_block ?_
          | refine aw_label ?_)
      | refine tq_n ?_
      | refine ng_n ?_
      | refine ng_r ?_
      | refine ng_x ?_
      | refine ⟨(rfl : regOk _ _ = true), ?_⟩
      | refine tq_r ?_
      | refine tq_x ?_
      | refine bq_n ?_
      | refine bq_x ?_
      | refine bq_r ?_
      | refine bq_o rfl ?_
      | refine fq_r rfl ?_
      | refine fq_n rfl ?_)
  · simp only [maxLen_eq, List.length_map, decide_eq_true_eq, decide_eq_false_iff_not, Int.toNat_natCast, Bool.not_eq_true', Bool.not_eq_false', Bool.not_eq_true, Bool.not_eq_false] at *; omega
  · simp only [maxLen_eq, List.length_map, decide_eq_true_eq, decide_eq_false_iff_not, Int.toNat_natCast, Bool.not_eq_true', Bool.not_eq_false', Bool.not_eq_true, Bool.not_eq_false] at *; omega
  · simp only [maxLen_eq, List.length_map, decide_eq_true_eq, decide_eq_false_iff_not, Int.toNat_natCast, Bool.not_eq_true', Bool.not_eq_false', Bool.not_eq_true, Bool.not_eq_false] at *; omega
  · rename_i x hx y hy
    have e : ((l.length / 2 : Nat) - 1 : Int).toNat = l.length / 2 - 1 := by omega
    rw [e, ha] at hx
    simp only [Int.toNat_natCast] at hy
    rw [hb] at hy
    cases hx; cases hy
    repeat' (first
        | (refine is_cons ?_; first
            | (refine is_as ?_; first | refine as_val rfl ?_ | refine as_new rfl rfl ?_)
            | (refine is_mv ?_; first | refine mv_val rfl ?_)
            | (refine is_bo ?_; first | refine rl_binT rfl ?_ | refine rl_binF rfl ?_ | (refine rl_binB rfl ?_; intro _ _) | (refine rl_half rfl (by (try simp only [maxLen_eq, List.length_map, decide_eq_true_eq, decide_eq_false_iff_not] at *); omega) ?_) | (refine rl_binW rfl (by (try simp only [maxLen_eq, List.length_map, decide_eq_true_eq, decide_eq_false_iff_not] at *); omega) ?_) | refine bo_val rfl ?_)
            | (refine is_ld ?_; first | refine ld_load rfl (by first | refine lookM_hd | exact lookM_sl rfl lookM_hd | (repeat (first | refine lookM_hd | refine lookM_sl rfl ?_))) rfl (by (try simp only [nfA, Nat.reduceAdd]) <;> apply rfl) ?_ | refine ld_valn rfl (by (try simp only [nfA, Nat.reduceAdd]) <;> apply rfl) ?_)
            | (refine is_fa ?_; first | refine fa_valn rfl (by (try simp only [nfA, Nat.reduceAdd]) <;> apply rfl) ?_)
            | (refine is_ex ?_; first | (refine rl_extB rfl ?_; intro _ _) | refine ex_valn rfl (by (try simp only [nfA, Nat.reduceAdd]) <;> apply rfl) ?_)
            | (refine is_ia ?_; first | (refine ia_elt rfl ?_ (fun _ _ => ?_)))
            | (refine is_sl ?_; first | refine sl_need rfl (by (try simp only [nfA, Nat.reduceAdd]) <;> apply rfl) ?_ ?_)
            | (refine is_uo ?_; first | refine uo_val rfl ?_)
            | (refine is_bi ?_; first | refine bi_val rfl ?_ | refine bi_own rfl (by first | refine lookB_hd | exact lookB_tt lookB_hd | (repeat (first | refine lookB_hd | refine lookB_sl rfl ?_))) ?_ ?_ | refine bi_needN rfl ?_ ?_ | (refine bi_gated rfl (by (try simp only [nfA, Nat.reduceAdd]) <;> apply rfl) ?_; intro _))
            | (refine is_cf 68 ?_; first | refine cf (f68_calls_ok _ _ h) rfl ⟨.inl rfl, .inl rfl, trivial⟩ ?_ | refine cf (f68_calls_ok _ _ h) rfl ⟨(by first | exact .inl rfl | exact .inr (.inl rfl) | exact .inr (.inr ⟨_, _, rfl, rfl⟩)), (by first | exact .inl rfl | exact .inr (.inl rfl) | exact .inr (.inr ⟨_, _, rfl, rfl⟩)), trivial⟩ ?_))
        | refine rl_nil ?_
        | (refine is_aw ?_; first
            | refine aw_seq ?_
            | refine aw_scope ?_
            | refine aw_reg rfl ?_
            | refine aw_draw rfl ?_
            | refine aw_condT rfl ?_
            | refine aw_condF rfl ?_
            | (refine aw_condN rfl ?_ ?_ <;> (intro h; subst h))
            | (refine aw_cond rfl ?_ ?_ <;> (intro h; subst h))
            | refine aw_skip ?_
            | refine aw_ret ?_
            | refine aw_exit ?_
            | refine aw_block ?_
            | refine aw_label ?_)
        | refine tq_n ?_
        | refine ng_n ?_
        | refine ng_r ?_
        | refine ng_x ?_
        | refine ⟨(rfl : regOk _ _ = true), ?_⟩
        | refine tq_r ?_
        | refine tq_x ?_
        | refine bq_n ?_
        | refine bq_x ?_
        | refine bq_r ?_
        | refine bq_o rfl ?_
        | refine fq_r rfl ?_
        | refine fq_n rfl ?_)
    all_goals first
      | contradiction
      | (simp only [maxLen_eq, List.length_map, decide_eq_true_eq, decide_eq_false_iff_not, Int.toNat_natCast, Bool.not_eq_true', Bool.not_eq_false', Bool.not_eq_true, Bool.not_eq_false] at *; omega)
      | (simp [normD, norm1]; done)
      | skip
theorem f43_calls_no (l : List Row) (a b : Row) (h2 : 2 ≤ l.length) (ha : l[l.length / 2 - 1]? = some a) (hb : l[l.length / 2]? = some b) (h : lt a.key b.key = false) : CallsD Try.prog 43 [.lst 2 (ers l)] (.tup [.str [], .lst 2 [], .lst 2 [], .bool false]) := by
  refine CallsD_bd enter43 fun hbd => CallsD_of good mixed (fn := Try.f43) (by kernel_rfl) rfl enter43 (Nat.le_of_ble_eq_true rfl) ?_
  show AWp _ _ _ _ _ ⟨[(0, _)], [], [], 0⟩
  repeat' (first
      | (refine is_cons ?_; first
          | (refine is_as ?_; first | refine as_val rfl ?_ | refine as_new rfl rfl ?_)
          | (refine is_mv ?_; first | refine mv_val rfl ?_)
          | (refine is_bo ?_; first | refine rl_binT rfl ?_ | refine rl_binF rfl ?_ | (refine rl_binB rfl ?_; intro _ _) | (refine rl_half rfl (by (try simp only [maxLen_eq, List.length_map, decide_eq_true_eq, decide_eq_false_iff_not] at *); omega) ?_) | (refine rl_binW rfl (by (try simp only [maxLen_eq, List.length_map, decide_eq_true_eq, decide_eq_false_iff_not] at *); omega) ?_) | refine bo_val rfl ?_)
          | (refine is_ld ?_; first | refine ld_load rfl (by first | refine lookM_hd | exact lookM_sl rfl lookM_hd | (repeat (first | refine lookM_hd | refine lookM_sl rfl ?_))) rfl (by (try simp only [nfA, Nat.reduceAdd]) <;> apply rfl) ?_ | refine ld_valn rfl (by (try simp only [nfA, Nat.reduceAdd]) <;> apply rfl) ?_)
          | (refine is_fa ?_; first | refine fa_valn rfl (by (try simp only [nfA, Nat.reduceAdd]) <;> apply rfl) ?_)
          | (refine is_ex ?_; first | (refine rl_extB rfl ?_; intro _ _) | refine ex_valn rfl (by (try simp only [nfA, Nat.reduceAdd]) <;> apply rfl) ?_)
          | (refine is_ia ?_; first | (refine ia_elt rfl ?_ (fun _ _ => ?_)))
          | (refine is_sl ?_; first | refine sl_need rfl (by (try simp only [nfA, Nat.reduceAdd]) <;> apply rfl) ?_ ?_)
          | (refine is_uo ?_; first | refine uo_val rfl ?_)
          | (refine is_bi ?_; first | refine bi_val rfl ?_ | refine bi_own rfl (by first | refine lookB_hd | exact lookB_tt lookB_hd | (repeat (first | refine lookB_hd | refine lookB_sl rfl ?_))) ?_ ?_ | refine bi_needN rfl ?_ ?_ | (refine bi_gated rfl (by (try simp only [nfA, Nat.reduceAdd]) <;> apply rfl) ?_; intro _)))
      | refine rl_nil ?_
      | (refine is_aw ?_; first
          | refine aw_seq ?_
          | refine aw_scope ?_
          | refine aw_reg rfl ?_
          | refine aw_draw rfl ?_
          | refine aw_condT rfl ?_
          | refine aw_condF rfl ?_
          | (refine aw_condN rfl ?_ ?_ <;> (intro h; subst h))
          | (refine aw_cond rfl ?_ ?_ <;> (intro h; subst h))
          | refine aw_skip ?_
          | refine aw_ret ?_
          | refine aw_exit ?_
          | refine aw_block ?_
          | refine aw_label ?_)
      | refine tq_n ?_
      | refine ng_n ?_
      | refine ng_r ?_
      | refine ng_x ?_
      | refine ⟨(rfl : regOk _ _ = true), ?_⟩
      | refine tq_r ?_
      | refine tq_x ?_
      | refine bq_n ?_
      | refine bq_x ?_
      | refine bq_r ?_
      | refine bq_o rfl ?_
      | refine fq_r rfl ?_
      | refine fq_n rfl ?_)
  · simp only [maxLen_eq, List.length_map, decide_eq_true_eq, decide_eq_false_iff_not, Int.toNat_natCast, Bool.not_eq_true', Bool.not_eq_false', Bool.not_eq_true, Bool.not_eq_false] at *; omega
  · simp only [maxLen_eq, List.length_map, decide_eq_true_eq, decide_eq_false_iff_not, Int.toNat_natCast, Bool.not_eq_true', Bool.not_eq_false', Bool.not_eq_true, Bool.not_eq_false] at *; omega
  · simp only [maxLen_eq, List.length_map, decide_eq_true_eq, decide_eq_false_iff_not, Int.toNat_natCast, Bool.not_eq_true', Bool.not_eq_false', Bool.not_eq_true, Bool.not_eq_false] at *; omega
  · rename_i x hx y hy
    have e : ((l.length / 2 : Nat) - 1 : Int).toNat = l.length / 2 - 1 := by omega
    rw [e, ha] at hx
    simp only [Int.toNat_natCast] at hy
    rw [hb] at hy
    cases hx; cases hy
    repeat' (first
        | (refine is_cons ?_; first
            | (refine is_as ?_; first | refine as_val rfl ?_ | refine as_new rfl rfl ?_)
            | (refine is_mv ?_; first | refine mv_val rfl ?_)
            | (refine is_bo ?_; first | refine rl_binT rfl ?_ | refine rl_binF rfl ?_ | (refine rl_binB rfl ?_; intro _ _) | (refine rl_half rfl (by (try simp only [maxLen_eq, List.length_map, decide_eq_true_eq, decide_eq_false_iff_not] at *); omega) ?_) | (refine rl_binW rfl (by (try simp only [maxLen_eq, List.length_map, decide_eq_true_eq, decide_eq_false_iff_not] at *); omega) ?_) | refine bo_val rfl ?_)
            | (refine is_ld ?_; first | refine ld_load rfl (by first | refine lookM_hd | exact lookM_sl rfl lookM_hd | (repeat (first | refine lookM_hd | refine lookM_sl rfl ?_))) rfl (by (try simp only [nfA, Nat.reduceAdd]) <;> apply rfl) ?_ | refine ld_valn rfl (by (try simp only [nfA, Nat.reduceAdd]) <;> apply rfl) ?_)
            | (refine is_fa ?_; first | refine fa_valn rfl (by (try simp only [nfA, Nat.reduceAdd]) <;> apply rfl) ?_)
            | (refine is_ex ?_; first | (refine rl_extB rfl ?_; intro _ _) | refine ex_valn rfl (by (try simp only [nfA, Nat.reduceAdd]) <;> apply rfl) ?_)
            | (refine is_ia ?_; first | (refine ia_elt rfl ?_ (fun _ _ => ?_)))
            | (refine is_sl ?_; first | refine sl_need rfl (by (try simp only [nfA, Nat.reduceAdd]) <;> apply rfl) ?_ ?_)
            | (refine is_uo ?_; first | refine uo_val rfl ?_)
            | (refine is_bi ?_; first | refine bi_val rfl ?_ | refine bi_own rfl (by first | refine lookB_hd | exact lookB_tt lookB_hd | (repeat (first | refine lookB_hd | refine lookB_sl rfl ?_))) ?_ ?_ | refine bi_needN rfl ?_ ?_ | (refine bi_gated rfl (by (try simp only [nfA, Nat.reduceAdd]) <;> apply rfl) ?_; intro _))
            | (refine is_cf 68 ?_; first | refine cf (f68_calls_no _ _ h) rfl ⟨.inl rfl, .inl rfl, trivial⟩ ?_ | refine cf (f68_calls_no _ _ h) rfl ⟨(by first | exact .inl rfl | exact .inr (.inl rfl) | exact .inr (.inr ⟨_, _, rfl, rfl⟩)), (by first | exact .inl rfl | exact .inr (.inl rfl) | exact .inr (.inr ⟨_, _, rfl, rfl⟩)), trivial⟩ ?_))
        | refine rl_nil ?_
        | (refine is_aw ?_; first
            | refine aw_seq ?_
            | refine aw_scope ?_
            | refine aw_reg rfl ?_
            | refine aw_draw rfl ?_
            | refine aw_condT rfl ?_
            | refine aw_condF rfl ?_
            | (refine aw_condN rfl ?_ ?_ <;> (intro h; subst h))
            | (refine aw_cond rfl ?_ ?_ <;> (intro h; subst h))
            | refine aw_skip ?_
            | refine aw_ret ?_
            | refine aw_exit ?_
            | refine aw_block ?_
            | refine aw_label ?_)
        | refine tq_n ?_
        | refine ng_n ?_
        | refine ng_r ?_
        | refine ng_x ?_
        | refine ⟨(rfl : regOk _ _ = true), ?_⟩
        | refine tq_r ?_
        | refine tq_x ?_
        | refine bq_n ?_
        | refine bq_x ?_
        | refine bq_r ?_
        | refine bq_o rfl ?_
        | refine fq_r rfl ?_
        | refine fq_n rfl ?_)
    all_goals first
      | contradiction
      | rfl
end Go.Proofs.Ytehhgamkijkjgaa.AM.TT
-- tt
namespace Go.Proofs.Ytehhgamkijkjgaa.AM.TT
open Go Go.Proofs.Ytehhgamkijkjgaa.AM Go.Proofs
set_option linter.unusedSimpArgs false
set_option linter.unusedVariables false
set_option maxHeartbeats 1000000
attribute [local irreducible] RunL AWp StepK OpK thenQ blockQ noGotoQ fnQ fnEQ
def splitR (K : Str) (pg : Int) : Rec := { noRec with kind := 4, key := K, page := pg }
def topR (v : LView) (K : Str) (x y : Int) : Rec := { noRec with kind := 7, low := v.low, high := v.high, unb := v.unb, right := v.right, ents := [⟨v.low, x⟩, ⟨K, y⟩] }
def leftV (v : LView) (K : Str) (y : Int) (A : List Row) : LView := ⟨v.low, K, false, y, A, false⟩
def rightV (v : LView) (K : Str) (B : List Row) : LView := ⟨K, v.high, v.unb, v.right, B, false⟩
theorem enter42 : EnterOk Try.prog 42 := EnterOk_of (fn := Try.f42) (by kernel_rfl) (by kernel_rfl) (by kernel_rfl)
theorem f42_calls_gone (v : LView) (hg : v.gone = true) : CallsD Try.prog 42 [.agg (ev v)] (.tup [.str [], .agg (ev noView), .agg (ev noView), EE 13]) := by
  refine CallsD_bd enter42 fun hbd => CallsD_of good mixed (fn := Try.f42) (by kernel_rfl) rfl enter42 (Nat.le_of_ble_eq_true rfl) ?_
  show AWp _ _ _ _ _ ⟨[(0, _)], [], [], 0⟩
  obtain ⟨lo, hi, un, ri, ro, go⟩ := v
  simp only at hg
  subst hg
  repeat' (first
      | (refine is_cons ?_; first
          | (refine is_as ?_; first | refine as_val rfl ?_ | refine as_new rfl rfl ?_)
          | (refine is_mv ?_; first | refine mv_val rfl ?_)
          | (refine is_ld ?_; first | refine ld_load rfl (by first | refine lookM_hd | exact lookM_sl rfl lookM_hd | (repeat (first | refine lookM_hd | refine lookM_sl rfl ?_))) rfl (by (try simp only [nfA, Nat.reduceAdd]) <;> apply rfl) ?_ | refine ld_valn rfl (by (try simp only [nfA, Nat.reduceAdd]) <;> apply rfl) ?_)
          | (refine is_fa ?_; first | refine fa_valn rfl (by (try simp only [nfA, Nat.reduceAdd]) <;> apply rfl) ?_)
          | (refine is_st ?_; first | refine st_store rfl (by first | refine lookM_hd | exact lookM_sl rfl lookM_hd | (repeat (first | refine lookM_hd | refine lookM_sl rfl ?_))) rfl (by (try simp only [nfA, Nat.reduceAdd]) <;> apply rfl) ?_)
          | (refine is_ex ?_; first | (refine rl_extB rfl ?_; intro _ _) | refine ex_valn rfl (by (try simp only [nfA, Nat.reduceAdd]) <;> apply rfl) ?_)
          | (refine is_bd ?_; first | refine bd_valn rfl (by (try simp only [nfA, Nat.reduceAdd]) <;> apply rfl) ?_)
          | (refine is_al ?_; first | refine al_alloc rfl (by (try simp only [nfA, Nat.reduceAdd]) <;> apply rfl) ?_)
          | (refine is_bo ?_; first | refine rl_binT rfl ?_ | refine rl_binF rfl ?_ | (refine rl_binB rfl ?_; intro _ _) | (refine rl_half rfl (by (try simp only [maxLen_eq, List.length_map, decide_eq_true_eq, decide_eq_false_iff_not] at *); omega) ?_) | (refine rl_binW rfl (by (try simp only [maxLen_eq, List.length_map, decide_eq_true_eq, decide_eq_false_iff_not] at *); omega) ?_) | refine bo_val rfl ?_)
          | (refine is_bx ?_; first | refine bx_alloc rfl (by (try simp only [nfA, Nat.reduceAdd]) <;> apply rfl) ?_)
          | (refine is_mi ?_; first | refine mi_val rfl ?_))
      | refine rl_nil ?_
      | (refine is_aw ?_; first
          | refine aw_seq ?_
          | refine aw_scope ?_
          | refine aw_reg rfl ?_
          | refine aw_draw rfl ?_
          | refine aw_condT rfl ?_
          | refine aw_condF rfl ?_
          | (refine aw_condN rfl ?_ ?_ <;> (intro h; subst h))
          | (refine aw_cond rfl ?_ ?_ <;> (intro h; subst h))
          | refine aw_skip ?_
          | refine aw_ret ?_
          | refine aw_exit ?_
          | refine aw_block ?_
          | refine aw_label ?_)
      | refine tq_n ?_
      | refine ng_n ?_
      | refine ng_r ?_
      | refine ng_x ?_
      | refine ⟨(rfl : regOk _ _ = true), ?_⟩
      | refine tq_r ?_
      | refine tq_x ?_
      | refine bq_n ?_
      | refine bq_x ?_
      | refine bq_r ?_
      | refine bq_o rfl ?_
      | refine fq_r rfl ?_
      | refine fq_n rfl ?_)
  all_goals rfl
theorem f42_calls_ok (v : LView) (K : Str) (A B : List Row) (hg : v.gone = false) (hc : CallsD Try.prog 66 [.lst 2 (ers v.rows)] (.tup [.str K, .lst 2 (ers A), .lst 2 (ers B), .nilI])) : CallsD Try.prog 42 [.agg (ev v)] (.tup [.str K, .agg (ev (leftV v K 0 A)), .agg (ev (rightV v K B)), .nilI]) := by
  refine CallsD_bd enter42 fun hbd => CallsD_of good mixed (fn := Try.f42) (by kernel_rfl) rfl enter42 (Nat.le_of_ble_eq_true rfl) ?_
  show AWp _ _ _ _ _ ⟨[(0, _)], [], [], 0⟩
  obtain ⟨lo, hi, un, ri, ro, go⟩ := v
  simp only at hg hc
  subst hg
  repeat' (first
      | (refine is_cons ?_; first
          | (refine is_as ?_; first | refine as_val rfl ?_ | refine as_new rfl rfl ?_)
          | (refine is_mv ?_; first | refine mv_val rfl ?_)
          | (refine is_ld ?_; first | refine ld_load rfl (by first | refine lookM_hd | exact lookM_sl rfl lookM_hd | (repeat (first | refine lookM_hd | refine lookM_sl rfl ?_))) rfl (by (try simp only [nfA, Nat.reduceAdd]) <;> apply rfl) ?_ | refine ld_valn rfl (by (try simp only [nfA, Nat.reduceAdd]) <;> apply rfl) ?_)
          | (refine is_fa ?_; first | refine fa_valn rfl (by (try simp only [nfA, Nat.reduceAdd]) <;> apply rfl) ?_)
          | (refine is_st ?_; first | refine st_store rfl (by first | refine lookM_hd | exact lookM_sl rfl lookM_hd | (repeat (first | refine lookM_hd | refine lookM_sl rfl ?_))) rfl (by (try simp only [nfA, Nat.reduceAdd]) <;> apply rfl) ?_)
          | (refine is_ex ?_; first | (refine rl_extB rfl ?_; intro _ _) | refine ex_valn rfl (by (try simp only [nfA, Nat.reduceAdd]) <;> apply rfl) ?_)
          | (refine is_bd ?_; first | refine bd_valn rfl (by (try simp only [nfA, Nat.reduceAdd]) <;> apply rfl) ?_)
          | (refine is_al ?_; first | refine al_alloc rfl (by (try simp only [nfA, Nat.reduceAdd]) <;> apply rfl) ?_)
          | (refine is_bo ?_; first | refine rl_binT rfl ?_ | refine rl_binF rfl ?_ | (refine rl_binB rfl ?_; intro _ _) | (refine rl_half rfl (by (try simp only [maxLen_eq, List.length_map, decide_eq_true_eq, decide_eq_false_iff_not] at *); omega) ?_) | (refine rl_binW rfl (by (try simp only [maxLen_eq, List.length_map, decide_eq_true_eq, decide_eq_false_iff_not] at *); omega) ?_) | refine bo_val rfl ?_)
          | (refine is_bx ?_; first | refine bx_alloc rfl (by (try simp only [nfA, Nat.reduceAdd]) <;> apply rfl) ?_)
          | (refine is_mi ?_; first | refine mi_val rfl ?_)
          | (refine is_cf 66 ?_; refine cf hc rfl ⟨.inl rfl, trivial⟩ ?_)
          | (refine rl_call (f67_calls _ _ _ _ _) rfl rfl rfl ⟨.inl rfl, .inl rfl, .inl rfl, .inl rfl, .inl rfl, trivial⟩ ?_))
      | refine rl_nil ?_
      | (refine is_aw ?_; first
          | refine aw_seq ?_
          | refine aw_scope ?_
          | refine aw_reg rfl ?_
          | refine aw_draw rfl ?_
          | refine aw_condT rfl ?_
          | refine aw_condF rfl ?_
          | (refine aw_condN rfl ?_ ?_ <;> (intro h; subst h))
          | (refine aw_cond rfl ?_ ?_ <;> (intro h; subst h))
          | refine aw_skip ?_
          | refine aw_ret ?_
          | refine aw_exit ?_
          | refine aw_block ?_
          | refine aw_label ?_)
      | refine tq_n ?_
      | refine ng_n ?_
      | refine ng_r ?_
      | refine ng_x ?_
      | refine ⟨(rfl : regOk _ _ = true), ?_⟩
      | refine tq_r ?_
      | refine tq_x ?_
      | refine bq_n ?_
      | refine bq_x ?_
      | refine bq_r ?_
      | refine bq_o rfl ?_
      | refine fq_r rfl ?_
      | refine fq_n rfl ?_)
  all_goals first
    | rfl
    | skip
theorem f42_calls_err (v : LView) (c : Int) (hg : v.gone = false) (hc : CallsD Try.prog 66 [.lst 2 (ers v.rows)] (.tup [.str [], .lst 2 [], .lst 2 [], EE c])) : CallsD Try.prog 42 [.agg (ev v)] (.tup [.str [], .agg (ev noView), .agg (ev noView), EE c]) := by
  refine CallsD_bd enter42 fun hbd => CallsD_of good mixed (fn := Try.f42) (by kernel_rfl) rfl enter42 (Nat.le_of_ble_eq_true rfl) ?_
  show AWp _ _ _ _ _ ⟨[(0, _)], [], [], 0⟩
  obtain ⟨lo, hi, un, ri, ro, go⟩ := v
  simp only at hg hc
  subst hg
  repeat' (first
      | (refine is_cons ?_; first
          | (refine is_as ?_; first | refine as_val rfl ?_ | refine as_new rfl rfl ?_)
          | (refine is_mv ?_; first | refine mv_val rfl ?_)
          | (refine is_ld ?_; first | refine ld_load rfl (by first | refine lookM_hd | exact lookM_sl rfl lookM_hd | (repeat (first | refine lookM_hd | refine lookM_sl rfl ?_))) rfl (by (try simp only [nfA, Nat.reduceAdd]) <;> apply rfl) ?_ | refine ld_valn rfl (by (try simp only [nfA, Nat.reduceAdd]) <;> apply rfl) ?_)
          | (refine is_fa ?_; first | refine fa_valn rfl (by (try simp only [nfA, Nat.reduceAdd]) <;> apply rfl) ?_)
          | (refine is_st ?_; first | refine st_store rfl (by first | refine lookM_hd | exact lookM_sl rfl lookM_hd | (repeat (first | refine lookM_hd | refine lookM_sl rfl ?_))) rfl (by (try simp only [nfA, Nat.reduceAdd]) <;> apply rfl) ?_)
          | (refine is_ex ?_; first | (refine rl_extB rfl ?_; intro _ _) | refine ex_valn rfl (by (try simp only [nfA, Nat.reduceAdd]) <;> apply rfl) ?_)
          | (refine is_bd ?_; first | refine bd_valn rfl (by (try simp only [nfA, Nat.reduceAdd]) <;> apply rfl) ?_)
          | (refine is_al ?_; first | refine al_alloc rfl (by (try simp only [nfA, Nat.reduceAdd]) <;> apply rfl) ?_)
          | (refine is_bo ?_; first | refine rl_binT rfl ?_ | refine rl_binF rfl ?_ | (refine rl_binB rfl ?_; intro _ _) | (refine rl_half rfl (by (try simp only [maxLen_eq, List.length_map, decide_eq_true_eq, decide_eq_false_iff_not] at *); omega) ?_) | (refine rl_binW rfl (by (try simp only [maxLen_eq, List.length_map, decide_eq_true_eq, decide_eq_false_iff_not] at *); omega) ?_) | refine bo_val rfl ?_)
          | (refine is_bx ?_; first | refine bx_alloc rfl (by (try simp only [nfA, Nat.reduceAdd]) <;> apply rfl) ?_)
          | (refine is_mi ?_; first | refine mi_val rfl ?_)
          | (refine is_cf 66 ?_; refine cf hc rfl ⟨.inl rfl, trivial⟩ ?_))
      | refine rl_nil ?_
      | (refine is_aw ?_; first
          | refine aw_seq ?_
          | refine aw_scope ?_
          | refine aw_reg rfl ?_
          | refine aw_draw rfl ?_
          | refine aw_condT rfl ?_
          | refine aw_condF rfl ?_
          | (refine aw_condN rfl ?_ ?_ <;> (intro h; subst h))
          | (refine aw_cond rfl ?_ ?_ <;> (intro h; subst h))
          | refine aw_skip ?_
          | refine aw_ret ?_
          | refine aw_exit ?_
          | refine aw_block ?_
          | refine aw_label ?_)
      | refine tq_n ?_
      | refine ng_n ?_
      | refine ng_r ?_
      | refine ng_x ?_
      | refine ⟨(rfl : regOk _ _ = true), ?_⟩
      | refine tq_r ?_
      | refine tq_x ?_
      | refine bq_n ?_
      | refine bq_x ?_
      | refine bq_r ?_
      | refine bq_o rfl ?_
      | refine fq_r rfl ?_
      | refine fq_n rfl ?_)
  all_goals rfl
theorem enter14 : EnterOk Try.prog 14 := EnterOk_of (fn := Try.f14) (by kernel_rfl) (by kernel_rfl) (by kernel_rfl)
theorem f14_calls_err (v : LView) (pg c : Int) (hc : CallsD Try.prog 42 [.agg (ev v)] (.tup [.str [], .agg (ev noView), .agg (ev noView), EE c])) : CallsD Try.prog 14 [.agg (ev v), I pg] (.tup [.agg (ec noRec), .agg (ec noRec), EE c]) := by
  refine CallsD_bd enter14 fun hbd => CallsD_of good mixed (fn := Try.f14) (by kernel_rfl) rfl enter14 (Nat.le_of_ble_eq_true rfl) ?_
  show AWp _ _ _ _ _ ⟨[(0, _), (1, _)], [], [], 0⟩
  repeat' (first
      | (refine is_cons ?_; first
          | (refine is_st ?_; first | refine st_store rfl (by first | refine lookM_hd | exact lookM_sl rfl lookM_hd | (repeat (first | refine lookM_hd | refine lookM_sl rfl ?_))) rfl (by (try simp only [nfA, Nat.reduceAdd]) <;> apply rfl) ?_)
          | (refine is_mv ?_; first | refine mv_val rfl ?_)
          | (refine is_as ?_; first | refine as_val rfl ?_ | refine as_new rfl rfl ?_)
          | (refine is_ex ?_; first | (refine rl_extB rfl ?_; intro _ _) | refine ex_valn rfl (by (try simp only [nfA, Nat.reduceAdd]) <;> apply rfl) ?_)
          | (refine is_al ?_; first | refine al_alloc rfl (by (try simp only [nfA, Nat.reduceAdd]) <;> apply rfl) ?_)
          | (refine is_bd ?_; first | refine bd_valn rfl (by (try simp only [nfA, Nat.reduceAdd]) <;> apply rfl) ?_)
          | (refine is_ld ?_; first | refine ld_load rfl (by first | refine lookM_hd | exact lookM_sl rfl lookM_hd | (repeat (first | refine lookM_hd | refine lookM_sl rfl ?_))) rfl (by (try simp only [nfA, Nat.reduceAdd]) <;> apply rfl) ?_ | refine ld_valn rfl (by (try simp only [nfA, Nat.reduceAdd]) <;> apply rfl) ?_)
          | (refine is_bo ?_; first | refine rl_binT rfl ?_ | refine rl_binF rfl ?_ | (refine rl_binB rfl ?_; intro _ _) | (refine rl_half rfl (by (try simp only [maxLen_eq, List.length_map, decide_eq_true_eq, decide_eq_false_iff_not] at *); omega) ?_) | (refine rl_binW rfl (by (try simp only [maxLen_eq, List.length_map, decide_eq_true_eq, decide_eq_false_iff_not] at *); omega) ?_) | refine bo_val rfl ?_)
          | (refine is_bx ?_; first | refine bx_alloc rfl (by (try simp only [nfA, Nat.reduceAdd]) <;> apply rfl) ?_)
          | (refine is_cf 42 ?_; refine cf hc rfl ⟨.inl rfl, trivial⟩ ?_))
      | refine rl_nil ?_
      | (refine is_aw ?_; first
          | refine aw_seq ?_
          | refine aw_scope ?_
          | refine aw_reg rfl ?_
          | refine aw_draw rfl ?_
          | refine aw_condT rfl ?_
          | refine aw_condF rfl ?_
          | (refine aw_condN rfl ?_ ?_ <;> (intro h; subst h))
          | (refine aw_cond rfl ?_ ?_ <;> (intro h; subst h))
          | refine aw_skip ?_
          | refine aw_ret ?_
          | refine aw_exit ?_
          | refine aw_block ?_
          | refine aw_label ?_)
      | refine tq_n ?_
      | refine ng_n ?_
      | refine ng_r ?_
      | refine ng_x ?_
      | refine ⟨(rfl : regOk _ _ = true), ?_⟩
      | refine tq_r ?_
      | refine tq_x ?_
      | refine bq_n ?_
      | refine bq_x ?_
      | refine bq_r ?_
      | refine bq_o rfl ?_
      | refine fq_r rfl ?_
      | refine fq_n rfl ?_)
  all_goals rfl
theorem f14_calls_ok (v : LView) (pg : Int) (K : Str) (A B : List Row) (hb : B.length ≤ 1000000) (hc : CallsD Try.prog 42 [.agg (ev v)] (.tup [.str K, .agg (ev (leftV v K 0 A)), .agg (ev (rightV v K B)), .nilI])) : CallsD Try.prog 14 [.agg (ev v), I pg] (.tup [.agg (ec (splitR K pg)), .agg (ec (baseR (rightV v K B))), .nilI]) := by
  refine CallsD_bd enter14 fun hbd => CallsD_of good mixed (fn := Try.f14) (by kernel_rfl) rfl enter14 (Nat.le_of_ble_eq_true rfl) ?_
  show AWp _ _ _ _ _ ⟨[(0, _), (1, _)], [], [], 0⟩
  repeat' (first
      | (refine is_cons ?_; first
          | (refine is_st ?_; first | refine st_store rfl (by first | refine lookM_hd | exact lookM_sl rfl lookM_hd | (repeat (first | refine lookM_hd | refine lookM_sl rfl ?_))) rfl (by (try simp only [nfA, Nat.reduceAdd]) <;> apply rfl) ?_)
          | (refine is_mv ?_; first | refine mv_val rfl ?_)
          | (refine is_as ?_; first | refine as_val rfl ?_ | refine as_new rfl rfl ?_)
          | (refine is_ex ?_; first | (refine rl_extB rfl ?_; intro _ _) | refine ex_valn rfl (by (try simp only [nfA, Nat.reduceAdd]) <;> apply rfl) ?_)
          | (refine is_al ?_; first | refine al_alloc rfl (by (try simp only [nfA, Nat.reduceAdd]) <;> apply rfl) ?_)
          | (refine is_bd ?_; first | refine bd_valn rfl (by (try simp only [nfA, Nat.reduceAdd]) <;> apply rfl) ?_)
          | (refine is_ld ?_; first | refine ld_load rfl (by first | refine lookM_hd | exact lookM_sl rfl lookM_hd | (repeat (first | refine lookM_hd | refine lookM_sl rfl ?_))) rfl (by (try simp only [nfA, Nat.reduceAdd]) <;> apply rfl) ?_ | refine ld_valn rfl (by (try simp only [nfA, Nat.reduceAdd]) <;> apply rfl) ?_)
          | (refine is_bo ?_; first | refine rl_binT rfl ?_ | refine rl_binF rfl ?_ | (refine rl_binB rfl ?_; intro _ _) | (refine rl_half rfl (by (try simp only [maxLen_eq, List.length_map, decide_eq_true_eq, decide_eq_false_iff_not] at *); omega) ?_) | (refine rl_binW rfl (by (try simp only [maxLen_eq, List.length_map, decide_eq_true_eq, decide_eq_false_iff_not] at *); omega) ?_) | refine bo_val rfl ?_)
          | (refine is_bx ?_; first | refine bx_alloc rfl (by (try simp only [nfA, Nat.reduceAdd]) <;> apply rfl) ?_)
          | (refine is_cf 42 ?_; refine cf hc rfl ⟨.inl rfl, trivial⟩ ?_)
          | (refine is_cf 22 ?_; refine cf (f22_calls (rightV v K B) hb) rfl ⟨.inl rfl, trivial⟩ ?_))
      | refine rl_nil ?_
      | (refine is_aw ?_; first
          | refine aw_seq ?_
          | refine aw_scope ?_
          | refine aw_reg rfl ?_
          | refine aw_draw rfl ?_
          | refine aw_condT rfl ?_
          | refine aw_condF rfl ?_
          | (refine aw_condN rfl ?_ ?_ <;> (intro h; subst h))
          | (refine aw_cond rfl ?_ ?_ <;> (intro h; subst h))
          | refine aw_skip ?_
          | refine aw_ret ?_
          | refine aw_exit ?_
          | refine aw_block ?_
          | refine aw_label ?_)
      | refine tq_n ?_
      | refine ng_n ?_
      | refine ng_r ?_
      | refine ng_x ?_
      | refine ⟨(rfl : regOk _ _ = true), ?_⟩
      | refine tq_r ?_
      | refine tq_x ?_
      | refine bq_n ?_
      | refine bq_x ?_
      | refine bq_r ?_
      | refine bq_o rfl ?_
      | refine fq_r rfl ?_
      | refine fq_n rfl ?_)
  all_goals first
    | rfl
    | skip
theorem enter16 : EnterOk Try.prog 16 := EnterOk_of (fn := Try.f16) (by kernel_rfl) (by kernel_rfl) (by kernel_rfl)
theorem f16_calls_err (v : LView) (x y c : Int) (hc : CallsD Try.prog 42 [.agg (ev v)] (.tup [.str [], .agg (ev noView), .agg (ev noView), EE c])) : CallsD Try.prog 16 [.agg (ev v), I x, I y] (.tup [.agg (ec noRec), .agg (ec noRec), .agg (ec noRec), EE c]) := by
  refine CallsD_bd enter16 fun hbd => CallsD_of good mixed (fn := Try.f16) (by kernel_rfl) rfl enter16 (Nat.le_of_ble_eq_true rfl) ?_
  show AWp _ _ _ _ _ ⟨[(0, _), (1, _), (2, _)], [], [], 0⟩
  repeat' (first
      | (refine is_cons ?_; first
          | (refine is_st ?_; first | refine st_store rfl (by first | refine lookM_hd | exact lookM_sl rfl lookM_hd | (repeat (first | refine lookM_hd | refine lookM_sl rfl ?_))) rfl (by (try simp only [nfA, Nat.reduceAdd]) <;> apply rfl) ?_)
          | (refine is_ld ?_; first | refine ld_load rfl (by first | refine lookM_hd | exact lookM_sl rfl lookM_hd | (repeat (first | refine lookM_hd | refine lookM_sl rfl ?_))) rfl (by (try simp only [nfA, Nat.reduceAdd]) <;> apply rfl) ?_ | refine ld_valn rfl (by (try simp only [nfA, Nat.reduceAdd]) <;> apply rfl) ?_)
          | (refine is_mv ?_; first | refine mv_val rfl ?_)
          | (refine is_fa ?_; first | refine fa_valn rfl (by (try simp only [nfA, Nat.reduceAdd]) <;> apply rfl) ?_)
          | (refine is_al ?_; first | refine al_alloc rfl (by (try simp only [nfA, Nat.reduceAdd]) <;> apply rfl) ?_)
          | (refine is_bd ?_; first | refine bd_valn rfl (by (try simp only [nfA, Nat.reduceAdd]) <;> apply rfl) ?_)
          | (refine is_as ?_; first | refine as_val rfl ?_ | refine as_new rfl rfl ?_)
          | (refine is_ex ?_; first | (refine rl_extB rfl ?_; intro _ _) | refine ex_valn rfl (by (try simp only [nfA, Nat.reduceAdd]) <;> apply rfl) ?_)
          | (refine is_bo ?_; first | refine rl_binT rfl ?_ | refine rl_binF rfl ?_ | (refine rl_binB rfl ?_; intro _ _) | (refine rl_half rfl (by (try simp only [maxLen_eq, List.length_map, decide_eq_true_eq, decide_eq_false_iff_not] at *); omega) ?_) | (refine rl_binW rfl (by (try simp only [maxLen_eq, List.length_map, decide_eq_true_eq, decide_eq_false_iff_not] at *); omega) ?_) | refine bo_val rfl ?_)
          | (refine is_bx ?_; first | refine bx_alloc rfl (by (try simp only [nfA, Nat.reduceAdd]) <;> apply rfl) ?_)
          | (refine is_bs ?_; first | refine bs_new rfl (by (try simp only [nfA, Nat.reduceAdd]) <;> apply rfl) ?_)
          | (refine is_cf 42 ?_; refine cf hc rfl ⟨.inl rfl, trivial⟩ ?_))
      | refine rl_nil ?_
      | (refine is_aw ?_; first
          | refine aw_seq ?_
          | refine aw_scope ?_
          | refine aw_reg rfl ?_
          | refine aw_draw rfl ?_
          | refine aw_condT rfl ?_
          | refine aw_condF rfl ?_
          | (refine aw_condN rfl ?_ ?_ <;> (intro h; subst h))
          | (refine aw_cond rfl ?_ ?_ <;> (intro h; subst h))
          | refine aw_skip ?_
          | refine aw_ret ?_
          | refine aw_exit ?_
          | refine aw_block ?_
          | refine aw_label ?_)
      | refine tq_n ?_
      | refine ng_n ?_
      | refine ng_r ?_
      | refine ng_x ?_
      | refine ⟨(rfl : regOk _ _ = true), ?_⟩
      | refine tq_r ?_
      | refine tq_x ?_
      | refine bq_n ?_
      | refine bq_x ?_
      | refine bq_r ?_
      | refine bq_o rfl ?_
      | refine fq_r rfl ?_
      | refine fq_n rfl ?_)
  all_goals rfl
theorem f16_calls_ok (v : LView) (x y : Int) (K : Str) (A B : List Row) (ha : A.length ≤ 1000000) (hb : B.length ≤ 1000000) (hc : CallsD Try.prog 42 [.agg (ev v)] (.tup [.str K, .agg (ev (leftV v K 0 A)), .agg (ev (rightV v K B)), .nilI])) : CallsD Try.prog 16 [.agg (ev v), I x, I y] (.tup [.agg (ec (baseR (leftV v K y A))), .agg (ec (baseR (rightV v K B))), .agg (ec (topR v K x y)), .nilI]) := by
  refine CallsD_bd enter16 fun hbd => CallsD_of good mixed (fn := Try.f16) (by kernel_rfl) rfl enter16 (Nat.le_of_ble_eq_true rfl) ?_
  show AWp _ _ _ _ _ ⟨[(0, _), (1, _), (2, _)], [], [], 0⟩
  repeat' (first
      | (refine is_cons ?_; first
          | (refine is_st ?_; first | refine st_store rfl (by first | refine lookM_hd | exact lookM_sl rfl lookM_hd | (repeat (first | refine lookM_hd | refine lookM_sl rfl ?_))) rfl (by (try simp only [nfA, Nat.reduceAdd]) <;> apply rfl) ?_)
          | (refine is_ld ?_; first | refine ld_load rfl (by first | refine lookM_hd | exact lookM_sl rfl lookM_hd | (repeat (first | refine lookM_hd | refine lookM_sl rfl ?_))) rfl (by (try simp only [nfA, Nat.reduceAdd]) <;> apply rfl) ?_ | refine ld_valn rfl (by (try simp only [nfA, Nat.reduceAdd]) <;> apply rfl) ?_)
          | (refine is_mv ?_; first | refine mv_val rfl ?_)
          | (refine is_fa ?_; first | refine fa_valn rfl (by (try simp only [nfA, Nat.reduceAdd]) <;> apply rfl) ?_)
          | (refine is_al ?_; first | refine al_alloc rfl (by (try simp only [nfA, Nat.reduceAdd]) <;> apply rfl) ?_)
          | (refine is_bd ?_; first | refine bd_valn rfl (by (try simp only [nfA, Nat.reduceAdd]) <;> apply rfl) ?_)
          | (refine is_as ?_; first | refine as_val rfl ?_ | refine as_new rfl rfl ?_)
          | (refine is_ex ?_; first | (refine rl_extB rfl ?_; intro _ _) | refine ex_valn rfl (by (try simp only [nfA, Nat.reduceAdd]) <;> apply rfl) ?_)
          | (refine is_bo ?_; first | refine rl_binT rfl ?_ | refine rl_binF rfl ?_ | (refine rl_binB rfl ?_; intro _ _) | (refine rl_half rfl (by (try simp only [maxLen_eq, List.length_map, decide_eq_true_eq, decide_eq_false_iff_not] at *); omega) ?_) | (refine rl_binW rfl (by (try simp only [maxLen_eq, List.length_map, decide_eq_true_eq, decide_eq_false_iff_not] at *); omega) ?_) | refine bo_val rfl ?_)
          | (refine is_bx ?_; first | refine bx_alloc rfl (by (try simp only [nfA, Nat.reduceAdd]) <;> apply rfl) ?_)
          | (refine is_bs ?_; first | refine bs_new rfl (by (try simp only [nfA, Nat.reduceAdd]) <;> apply rfl) ?_)
          | (refine is_cf 42 ?_; refine cf hc rfl ⟨.inl rfl, trivial⟩ ?_)
          | (refine is_cf 22 ?_; first | refine cf (f22_calls (rightV v K B) hb) rfl ⟨.inl rfl, trivial⟩ ?_ | refine cf (f22_calls (leftV v K y A) ha) rfl ⟨.inl rfl, trivial⟩ ?_))
      | refine rl_nil ?_
      | (refine is_aw ?_; first
          | refine aw_seq ?_
          | refine aw_scope ?_
          | refine aw_reg rfl ?_
          | refine aw_draw rfl ?_
          | refine aw_condT rfl ?_
          | refine aw_condF rfl ?_
          | (refine aw_condN rfl ?_ ?_ <;> (intro h; subst h))
          | (refine aw_cond rfl ?_ ?_ <;> (intro h; subst h))
          | refine aw_skip ?_
          | refine aw_ret ?_
          | refine aw_exit ?_
          | refine aw_block ?_
          | refine aw_label ?_)
      | refine tq_n ?_
      | refine ng_n ?_
      | refine ng_r ?_
      | refine ng_x ?_
      | refine ⟨(rfl : regOk _ _ = true), ?_⟩
      | refine tq_r ?_
      | refine tq_x ?_
      | refine bq_n ?_
      | refine bq_x ?_
      | refine bq_r ?_
      | refine bq_o rfl ?_
      | refine fq_r rfl ?_
      | refine fq_n rfl ?_)
  all_goals first
    | rfl
    | skip
theorem enter15 : EnterOk Try.prog 15 := EnterOk_of (fn := Try.f15) (by kernel_rfl) (by kernel_rfl) (by kernel_rfl)
theorem f15_calls (v : LView) (pg : Int) (K : Str) (A B : List Row) (ok : Bool) (hc : CallsD Try.prog 43 [.lst 2 (ers v.rows)] (.tup [.str K, .lst 2 (ers A), .lst 2 (ers B), .bool ok])) : CallsD Try.prog 15 [.agg (ev v), I pg] (.tup [.agg (ec (if !v.gone && ok then splitR K pg else noRec)), .agg (ec (if !v.gone && ok then baseR (rightV v K B) else noRec)), .bool (!v.gone && ok)]) := by
  refine CallsD_bd enter15 fun hbd => CallsD_of good mixed (fn := Try.f15) (by kernel_rfl) rfl enter15 (Nat.le_of_ble_eq_true rfl) ?_
  show AWp _ _ _ _ _ ⟨[(0, _), (1, _)], [], [], 0⟩
  obtain ⟨lo, hi, un, ri, ro, go⟩ := v
  simp only at hc
  repeat' (first
      | (refine is_cons ?_; first
          | (refine is_g ?_; first | refine rl_on rfl rfl ?_ | refine rl_off rfl rfl ?_ | refine rl_offU rfl ?_ | (refine rl_case rfl ?_ ?_ <;> (intro h; first | subst h | (simp only [Bool.not_eq_true', Bool.not_eq_false'] at h; subst h))))
          | (refine is_mv ?_; first | refine mv_val rfl ?_)
          | (refine is_as ?_; first | refine as_val rfl ?_ | refine as_new rfl rfl ?_)
          | (refine is_ld ?_; first | refine ld_load rfl (by first | refine lookM_hd | exact lookM_sl rfl lookM_hd | (repeat (first | refine lookM_hd | refine lookM_sl rfl ?_))) rfl (by (try simp only [nfA, Nat.reduceAdd]) <;> apply rfl) ?_ | refine ld_valn rfl (by (try simp only [nfA, Nat.reduceAdd]) <;> apply rfl) ?_)
          | (refine is_fa ?_; first | refine fa_valn rfl (by (try simp only [nfA, Nat.reduceAdd]) <;> apply rfl) ?_)
          | (refine is_ex ?_; first | (refine rl_extB rfl ?_; intro _ _) | refine ex_valn rfl (by (try simp only [nfA, Nat.reduceAdd]) <;> apply rfl) ?_)
          | (refine is_st ?_; first | refine st_store rfl (by first | refine lookM_hd | exact lookM_sl rfl lookM_hd | (repeat (first | refine lookM_hd | refine lookM_sl rfl ?_))) rfl (by (try simp only [nfA, Nat.reduceAdd]) <;> apply rfl) ?_)
          | (refine is_bd ?_; first | refine bd_valn rfl (by (try simp only [nfA, Nat.reduceAdd]) <;> apply rfl) ?_)
          | (refine is_al ?_; first | refine al_alloc rfl (by (try simp only [nfA, Nat.reduceAdd]) <;> apply rfl) ?_)
          | (refine is_pk ?_; first | refine pk_twoT rfl rfl ?_ | refine pk_twoF rfl rfl ?_ | (refine pk_case rfl ?_ ?_ <;> (intro h; subst h)))
          | (refine is_bx ?_; first | refine bx_alloc rfl (by (try simp only [nfA, Nat.reduceAdd]) <;> apply rfl) ?_)
          | (refine is_uo ?_; first | refine uo_val rfl ?_)
          | (refine is_cf 43 ?_; refine cf hc rfl ⟨.inl rfl, trivial⟩ ?_)
          | (refine is_cf 23 ?_; first | refine cf (f23_calls ⟨K, hi, un, ri, B, false⟩) rfl ⟨.inl rfl, trivial⟩ ?_ | refine cf (f23_calls ⟨K, hi, un, ri, B, false⟩) rfl ⟨(by first | exact .inl rfl | exact .inr (.inl rfl) | exact .inr (.inr ⟨_, _, rfl, rfl⟩)), trivial⟩ ?_))
      | refine rl_nil ?_
      | (refine is_aw ?_; first
          | refine aw_seq ?_
          | refine aw_scope ?_
          | refine aw_reg rfl ?_
          | refine aw_draw rfl ?_
          | refine aw_condT rfl ?_
          | refine aw_condF rfl ?_
          | (refine aw_condN rfl ?_ ?_ <;> (intro h; subst h))
          | (refine aw_cond rfl ?_ ?_ <;> (intro h; subst h))
          | refine aw_skip ?_
          | refine aw_ret ?_
          | refine aw_exit ?_
          | refine aw_block ?_
          | refine aw_label ?_)
      | refine tq_n ?_
      | refine ng_n ?_
      | refine ng_r ?_
      | refine ng_x ?_
      | refine ⟨(rfl : regOk _ _ = true), ?_⟩
      | refine tq_r ?_
      | refine tq_x ?_
      | refine bq_n ?_
      | refine bq_x ?_
      | refine bq_r ?_
      | refine bq_o rfl ?_
      | refine fq_r rfl ?_
      | refine fq_n rfl ?_)
  all_goals first
    | rfl
    | contradiction
    | (rename_i b; subst b; rfl)
    | skip
theorem enter17 : EnterOk Try.prog 17 := EnterOk_of (fn := Try.f17) (by kernel_rfl) (by kernel_rfl) (by kernel_rfl)
theorem f17_calls (v : LView) (x y : Int) (K : Str) (A B : List Row) (ok : Bool) (hc : CallsD Try.prog 43 [.lst 2 (ers v.rows)] (.tup [.str K, .lst 2 (ers A), .lst 2 (ers B), .bool ok])) : CallsD Try.prog 17 [.agg (ev v), I x, I y] (.tup [.agg (ec (if !v.gone && ok then baseR (leftV v K y A) else noRec)), .agg (ec (if !v.gone && ok then baseR (rightV v K B) else noRec)), .agg (ec (if !v.gone && ok then topR v K x y else noRec)), .bool (!v.gone && ok)]) := by
  refine CallsD_bd enter17 fun hbd => CallsD_of good mixed (fn := Try.f17) (by kernel_rfl) rfl enter17 (Nat.le_of_ble_eq_true rfl) ?_
  show AWp _ _ _ _ _ ⟨[(0, _), (1, _), (2, _)], [], [], 0⟩
  obtain ⟨lo, hi, un, ri, ro, go⟩ := v
  simp only at hc
  repeat' (first
      | (refine is_cons ?_; first
          | (refine is_g ?_; first | refine rl_on rfl rfl ?_ | refine rl_off rfl rfl ?_ | refine rl_offU rfl ?_ | (refine rl_case rfl ?_ ?_ <;> (intro h; first | subst h | (simp only [Bool.not_eq_true', Bool.not_eq_false'] at h; subst h))))
          | (refine is_ld ?_; first | refine ld_load rfl (by first | refine lookM_hd | exact lookM_sl rfl lookM_hd | (repeat (first | refine lookM_hd | refine lookM_sl rfl ?_))) rfl (by (try simp only [nfA, Nat.reduceAdd]) <;> apply rfl) ?_ | refine ld_valn rfl (by (try simp only [nfA, Nat.reduceAdd]) <;> apply rfl) ?_)
          | (refine is_mv ?_; first | refine mv_val rfl ?_)
          | (refine is_fa ?_; first | refine fa_valn rfl (by (try simp only [nfA, Nat.reduceAdd]) <;> apply rfl) ?_)
          | (refine is_st ?_; first | refine st_store rfl (by first | refine lookM_hd | exact lookM_sl rfl lookM_hd | (repeat (first | refine lookM_hd | refine lookM_sl rfl ?_))) rfl (by (try simp only [nfA, Nat.reduceAdd]) <;> apply rfl) ?_)
          | (refine is_as ?_; first | refine as_val rfl ?_ | refine as_new rfl rfl ?_)
          | (refine is_al ?_; first | refine al_alloc rfl (by (try simp only [nfA, Nat.reduceAdd]) <;> apply rfl) ?_)
          | (refine is_bd ?_; first | refine bd_valn rfl (by (try simp only [nfA, Nat.reduceAdd]) <;> apply rfl) ?_)
          | (refine is_ex ?_; first | (refine rl_extB rfl ?_; intro _ _) | refine ex_valn rfl (by (try simp only [nfA, Nat.reduceAdd]) <;> apply rfl) ?_)
          | (refine is_pk ?_; first | refine pk_twoT rfl rfl ?_ | refine pk_twoF rfl rfl ?_ | (refine pk_case rfl ?_ ?_ <;> (intro h; subst h)))
          | (refine is_bx ?_; first | refine bx_alloc rfl (by (try simp only [nfA, Nat.reduceAdd]) <;> apply rfl) ?_)
          | (refine is_bs ?_; first | refine bs_new rfl (by (try simp only [nfA, Nat.reduceAdd]) <;> apply rfl) ?_)
          | (refine is_uo ?_; first | refine uo_val rfl ?_)
          | (refine is_cf 43 ?_; refine cf hc rfl ⟨.inl rfl, trivial⟩ ?_)
          | (refine is_cf 23 ?_; first | refine cf (f23_calls ⟨K, hi, un, ri, B, false⟩) rfl ⟨.inl rfl, trivial⟩ ?_ | refine cf (f23_calls ⟨lo, K, false, y, A, false⟩) rfl ⟨.inl rfl, trivial⟩ ?_))
      | refine rl_nil ?_
      | (refine is_aw ?_; first
          | refine aw_seq ?_
          | refine aw_scope ?_
          | refine aw_reg rfl ?_
          | refine aw_draw rfl ?_
          | refine aw_condT rfl ?_
          | refine aw_condF rfl ?_
          | (refine aw_condN rfl ?_ ?_ <;> (intro h; subst h))
          | (refine aw_cond rfl ?_ ?_ <;> (intro h; subst h))
          | refine aw_skip ?_
          | refine aw_ret ?_
          | refine aw_exit ?_
          | refine aw_block ?_
          | refine aw_label ?_)
      | refine tq_n ?_
      | refine ng_n ?_
      | refine ng_r ?_
      | refine ng_x ?_
      | refine ⟨(rfl : regOk _ _ = true), ?_⟩
      | refine tq_r ?_
      | refine tq_x ?_
      | refine bq_n ?_
      | refine bq_x ?_
      | refine bq_r ?_
      | refine bq_o rfl ?_
      | refine fq_r rfl ?_
      | refine fq_n rfl ?_)
  all_goals first
    | rfl
    | contradiction
    | (rename_i b; subst b; rfl)
    | skip
end Go.Proofs.Ytehhgamkijkjgaa.AM.TT
-- tt
namespace Go.Proofs.Ytehhgamkijkjgaa.AM.TT
open Go Go.Proofs.Ytehhgamkijkjgaa.AM Go.Proofs
set_option linter.unusedSimpArgs false
set_option linter.unusedVariables false
set_option maxHeartbeats 1000000
attribute [local irreducible] RunL AWp StepK OpK thenQ blockQ noGotoQ fnQ fnEQ
def fewR (v : LView) : Rec := { noRec with rows := v.rows, low := v.low, high := v.high }
theorem enter11 : EnterOk Try.prog 11 := EnterOk_of (fn := Try.f11) (by kernel_rfl) (by kernel_rfl) (by kernel_rfl)
theorem f11_calls (v : LView) : CallsD Try.prog 11 [.agg (ev v)] (.bool (fewM [fewR v])) := by
  refine CallsD_bd enter11 fun hbd => CallsD_of good mixed (fn := Try.f11) (by kernel_rfl) rfl enter11 (Nat.le_of_ble_eq_true rfl) ?_
  show AWp _ _ _ _ _ ⟨[(0, _)], [], [], 0⟩
  repeat' (first
      | (refine is_cons ?_; first
          | (refine is_ld ?_; first | refine ld_load rfl (by first | refine lookM_hd | exact lookM_sl rfl lookM_hd | (repeat (first | refine lookM_hd | refine lookM_sl rfl ?_))) rfl (by (try simp only [nfA, Nat.reduceAdd]) <;> apply rfl) ?_ | refine ld_valn rfl (by (try simp only [nfA, Nat.reduceAdd]) <;> apply rfl) ?_)
          | (refine is_fa ?_; first | refine fa_valn rfl (by (try simp only [nfA, Nat.reduceAdd]) <;> apply rfl) ?_)
          | (refine is_as ?_; first | refine as_val rfl ?_ | refine as_new rfl rfl ?_)
          | (refine is_bx ?_; first | refine bx_alloc rfl (by (try simp only [nfA, Nat.reduceAdd]) <;> apply rfl) ?_)
          | (refine is_bd ?_; first | refine bd_valn rfl (by (try simp only [nfA, Nat.reduceAdd]) <;> apply rfl) ?_)
          | (refine is_bs ?_; first | refine bs_new rfl (by (try simp only [nfA, Nat.reduceAdd]) <;> apply rfl) ?_)
          | (refine is_cf 40 ?_; refine cf (f40_calls [fewR v]) rfl ⟨(by first | exact .inl rfl | exact .inr (.inl rfl)), trivial⟩ ?_))
      | refine rl_nil ?_
      | (refine is_aw ?_; first
          | refine aw_seq ?_
          | refine aw_scope ?_
          | refine aw_reg rfl ?_
          | refine aw_draw rfl ?_
          | refine aw_condT rfl ?_
          | refine aw_condF rfl ?_
          | (refine aw_condN rfl ?_ ?_ <;> (intro h; subst h))
          | (refine aw_cond rfl ?_ ?_ <;> (intro h; subst h))
          | refine aw_skip ?_
          | refine aw_ret ?_
          | refine aw_exit ?_
          | refine aw_block ?_
          | refine aw_label ?_)
      | refine tq_n ?_
      | refine ng_n ?_
      | refine ng_r ?_
      | refine ng_x ?_
      | refine ⟨(rfl : regOk _ _ = true), ?_⟩
      | refine tq_r ?_
      | refine tq_x ?_
      | refine bq_n ?_
      | refine bq_x ?_
      | refine bq_r ?_
      | refine bq_o rfl ?_
      | refine fq_r rfl ?_
      | refine fq_n rfl ?_)
  all_goals rfl
def w0 : LView := ⟨[], [], true, 0, [⟨[97], []⟩, ⟨[98], []⟩, ⟨[99], []⟩, ⟨[100], []⟩], false⟩
theorem half0 : CallsD Try.prog 66 [.lst 2 (ers w0.rows)] (.tup [.str [99], .lst 2 (ers (w0.rows.take 2)), .lst 2 (ers (w0.rows.drop 2)), .nilI]) :=
  f66_calls w0.rows ⟨[98], []⟩ ⟨[99], []⟩ (by decide) rfl rfl (by decide) (by decide)
theorem split0 : CallsD Try.prog 14 [.agg (ev w0), I 3] (.tup [.agg (ec (splitR [99] 3)), .agg (ec (baseR (rightV w0 [99] (w0.rows.drop 2)))), .nilI]) :=
  f14_calls_ok w0 3 [99] _ _ (by decide) (f42_calls_ok w0 [99] _ _ rfl half0)
theorem foldw0 : foldL [splitR [99] 3, baseR w0] = .ok ⟨[], [99], false, 3, w0.rows.take 2, false⟩ := by rfl
theorem folded0 : CallsD Try.prog 41 [.lst 15 (ecs [splitR [99] 3, baseR w0])] (.tup [.agg (ev ⟨[], [99], false, 3, w0.rows.take 2, false⟩), .nilI]) := by
  have := f41_calls [splitR [99] 3, baseR w0] (by decide)
  rw [foldw0] at this
  exact this
theorem enter12 : EnterOk Try.prog 12 := EnterOk_of (fn := Try.f12) (by kernel_rfl) (by kernel_rfl) (by kernel_rfl)
theorem f12_calls  : CallsD Try.prog 12 [] (.bool true) := by
  refine CallsD_bd enter12 fun hbd => CallsD_of good mixed (fn := Try.f12) (by kernel_rfl) rfl enter12 (Nat.le_of_ble_eq_true rfl) ?_
  show AWp _ _ _ _ _ ⟨[], [], [], 0⟩
  repeat' (first
      | (refine is_cons ?_; first
          | (refine is_g ?_; first | refine rl_on rfl rfl ?_ | refine rl_off rfl rfl ?_ | refine rl_offU rfl ?_ | (refine rl_case rfl ?_ ?_ <;> (intro h; first | subst h | (simp only [Bool.not_eq_true', Bool.not_eq_false'] at h; subst h))))
          | (refine is_mv ?_; first | refine mv_val rfl ?_)
          | (refine is_ld ?_; first | refine ld_load rfl (by first | refine lookM_hd | exact lookM_sl rfl lookM_hd | (repeat (first | refine lookM_hd | refine lookM_sl rfl ?_))) rfl (by (try simp only [nfA, Nat.reduceAdd]) <;> apply rfl) ?_ | refine ld_valn rfl (by (try simp only [nfA, Nat.reduceAdd]) <;> apply rfl) ?_)
          | (refine is_bo ?_; first | refine rl_binT rfl ?_ | refine rl_binF rfl ?_ | (refine rl_binB rfl ?_; intro _ _) | (refine rl_half rfl (by (try simp only [maxLen_eq, List.length_map, decide_eq_true_eq, decide_eq_false_iff_not] at *); omega) ?_) | (refine rl_binW rfl (by (try simp only [maxLen_eq, List.length_map, decide_eq_true_eq, decide_eq_false_iff_not] at *); omega) ?_) | refine bo_val rfl ?_)
          | (refine is_pk ?_; first | refine pk_twoT rfl rfl ?_ | refine pk_twoF rfl rfl ?_ | (refine pk_case rfl ?_ ?_ <;> (intro h; subst h)))
          | (refine is_fa ?_; first | refine fa_valn rfl (by (try simp only [nfA, Nat.reduceAdd]) <;> apply rfl) ?_)
          | (refine is_ex ?_; first | (refine rl_extB rfl ?_; intro _ _) | refine ex_valn rfl (by (try simp only [nfA, Nat.reduceAdd]) <;> apply rfl) ?_)
          | (refine is_bd ?_; first | refine bd_valn rfl (by (try simp only [nfA, Nat.reduceAdd]) <;> apply rfl) ?_)
          | (refine is_as ?_; first | refine as_val rfl ?_ | refine as_new rfl rfl ?_)
          | (refine is_al ?_; first | refine al_alloc rfl (by (try simp only [nfA, Nat.reduceAdd]) <;> apply rfl) ?_)
          | (refine is_st ?_; first | refine st_store rfl (by first | refine lookM_hd | exact lookM_sl rfl lookM_hd | (repeat (first | refine lookM_hd | refine lookM_sl rfl ?_))) rfl (by (try simp only [nfA, Nat.reduceAdd]) <;> apply rfl) ?_)
          | (refine is_bs ?_; first | refine bs_new rfl (by (try simp only [nfA, Nat.reduceAdd]) <;> apply rfl) ?_)
          | (refine is_bi ?_; first | refine bi_val rfl ?_ | refine bi_own rfl (by first | refine lookB_hd | exact lookB_tt lookB_hd | (repeat (first | refine lookB_hd | refine lookB_sl rfl ?_))) ?_ ?_ | refine bi_needN rfl ?_ ?_ | (refine bi_gated rfl (by (try simp only [nfA, Nat.reduceAdd]) <;> apply rfl) ?_; intro _))
          | (refine is_cf 14 ?_; refine cf split0 rfl ⟨.inl rfl, .inl rfl, trivial⟩ ?_)
          | (refine is_cf 22 ?_; refine cf (f22_calls w0 (by decide)) rfl ⟨.inl rfl, trivial⟩ ?_)
          | (refine is_cf 41 ?_; refine cf folded0 rfl ⟨(by first | exact .inl rfl | exact .inr (.inl rfl)), trivial⟩ ?_))
      | refine rl_nil ?_
      | (refine is_aw ?_; first
          | refine aw_seq ?_
          | refine aw_scope ?_
          | refine aw_reg rfl ?_
          | refine aw_draw rfl ?_
          | refine aw_condT rfl ?_
          | refine aw_condF rfl ?_
          | (refine aw_condN rfl ?_ ?_ <;> (intro h; subst h))
          | (refine aw_cond rfl ?_ ?_ <;> (intro h; subst h))
          | refine aw_skip ?_
          | refine aw_ret ?_
          | refine aw_exit ?_
          | refine aw_block ?_
          | refine aw_label ?_)
      | refine tq_n ?_
      | refine ng_n ?_
      | refine ng_r ?_
      | refine ng_x ?_
      | refine ⟨(rfl : regOk _ _ = true), ?_⟩
      | refine tq_r ?_
      | refine tq_x ?_
      | refine bq_n ?_
      | refine bq_x ?_
      | refine bq_r ?_
      | refine bq_o rfl ?_
      | refine fq_r rfl ?_
      | refine fq_n rfl ?_)
  all_goals first
    | rfl
    | skip
end Go.Proofs.Ytehhgamkijkjgaa.AM.TT
-- tt
namespace Go.Proofs.Ytehhgamkijkjgaa.AM.TT
open Go Go.Proofs.Ytehhgamkijkjgaa.AM Go.Proofs
set_option linter.unusedSimpArgs false
set_option linter.unusedVariables false
set_option maxHeartbeats 2000000
attribute [local irreducible] RunL AWp StepK OpK thenQ blockQ noGotoQ fnQ fnEQ
theorem few_rows {v : LView} (h : fewM [fewR v] = true) : v.rows.length ≤ 100 := by
  simp only [fewM, Bool.and_eq_true, decide_eq_true_eq] at h
  have h1 := h.1.2
  simp [nU, rN, fewR] at h1
  omega
/-- What the halves of rows are, here and there. -/
theorem half_cases (l : List Row) (hs : l.length ≤ 100) :
    (l.length < 2 ∧ CallsD Try.prog 66 [.lst 2 (ers l)] (.tup [.str [], .lst 2 [], .lst 2 [], EE 2]) ∧ CallsD Try.prog 43 [.lst 2 (ers l)] (.tup [.str [], .lst 2 [], .lst 2 [], .bool false])) ∨
    (2 ≤ l.length ∧ CallsD Try.prog 66 [.lst 2 (ers l)] (.tup [.str [], .lst 2 [], .lst 2 [], EE 1]) ∧ CallsD Try.prog 43 [.lst 2 (ers l)] (.tup [.str [], .lst 2 [], .lst 2 [], .bool false])) ∨
    (2 ≤ l.length ∧ ∃ (K : Str) (A B : List Row), A.length ≤ 1000000 ∧ B.length ≤ 1000000 ∧ CallsD Try.prog 66 [.lst 2 (ers l)] (.tup [.str K, .lst 2 (ers A), .lst 2 (ers B), .nilI]) ∧ CallsD Try.prog 43 [.lst 2 (ers l)] (.tup [.str K, .lst 2 (ers A), .lst 2 (ers B), .bool true])) := by
  rcases Nat.lt_or_ge l.length 2 with h2 | h2
  · exact .inl ⟨h2, f66_calls_few l h2, f43_calls_few l h2⟩
  · have ha : l[l.length / 2 - 1]? = some (l[l.length / 2 - 1]'(by omega)) := by simp
    have hb : l[l.length / 2]? = some (l[l.length / 2]'(by omega)) := by simp
    generalize l[l.length / 2 - 1]'(by omega) = a at ha
    generalize l[l.length / 2]'(by omega) = b at hb
    cases h : lt a.key b.key with
    | false => exact .inr (.inl ⟨h2, f66_calls_no l a b h2 ha hb h, f43_calls_no l a b h2 ha hb h⟩)
    | true => exact .inr (.inr ⟨h2, _, _, _, by simp; omega, by simp; omega, f66_calls l a b h2 ha hb h (by omega), f43_calls_ok l a b h2 ha hb h⟩)
theorem enter3 : EnterOk Try.prog 3 := EnterOk_of (fn := Try.f3) (by kernel_rfl) (by kernel_rfl) (by kernel_rfl)
theorem f3_calls (v : LView) (x y : Int) : CallsD Try.prog 3 [.agg (ev v), I x, I y] (.bool true) := by
  refine CallsD_bd enter3 fun hbd => CallsD_of good mixed (fn := Try.f3) (by kernel_rfl) rfl enter3 (Nat.le_of_ble_eq_true rfl) ?_
  show AWp _ _ _ _ _ ⟨[(0, _), (1, _), (2, _)], [], [], 0⟩
  have hc11 := f11_calls v
  cases hf : fewM [fewR v] with
  | false =>
    rw [hf] at hc11
    obtain ⟨lo, hi, un, ri, ro, go⟩ := v
    repeat' (first
        | (refine is_cons ?_; first
            | (refine is_g ?_; first | refine rl_on rfl rfl ?_ | refine rl_off rfl rfl ?_ | refine rl_offU rfl ?_ | (refine rl_case rfl ?_ ?_ <;> (intro h; first | subst h | (simp only [Bool.not_eq_true', Bool.not_eq_false'] at h; subst h))))
            | (refine is_mv ?_; first | refine mv_val rfl ?_)
            | (refine is_ld ?_; first | refine ld_load rfl (by first | refine lookM_hd | exact lookM_sl rfl lookM_hd | (repeat (first | refine lookM_hd | refine lookM_sl rfl ?_))) rfl (by (try simp only [nfA, Nat.reduceAdd]) <;> apply rfl) ?_ | refine ld_valn rfl (by (try simp only [nfA, Nat.reduceAdd]) <;> apply rfl) ?_)
            | (refine is_ex ?_; first | (refine rl_extB rfl ?_; intro _ _) | refine ex_valn rfl (by (try simp only [nfA, Nat.reduceAdd]) <;> apply rfl) ?_)
            | (refine is_pk ?_; first | refine pk_twoT rfl rfl ?_ | refine pk_twoF rfl rfl ?_ | (refine pk_case rfl ?_ ?_ <;> (intro h; subst h)))
            | (refine is_al ?_; first | refine al_alloc rfl (by (try simp only [nfA, Nat.reduceAdd]) <;> apply rfl) ?_)
            | (refine is_st ?_; first | refine st_store rfl (by first | refine lookM_hd | exact lookM_sl rfl lookM_hd | (repeat (first | refine lookM_hd | refine lookM_sl rfl ?_))) rfl (by (try simp only [nfA, Nat.reduceAdd]) <;> apply rfl) ?_)
            | (refine is_as ?_; first | refine as_val rfl ?_ | refine as_new rfl rfl ?_)
            | (refine is_bo ?_; first | refine rl_binT rfl ?_ | refine rl_binF rfl ?_ | (refine rl_binB rfl ?_; intro _ _) | (refine rl_half rfl (by (try simp only [maxLen_eq, List.length_map, decide_eq_true_eq, decide_eq_false_iff_not] at *); omega) ?_) | (refine rl_binW rfl (by (try simp only [maxLen_eq, List.length_map, decide_eq_true_eq, decide_eq_false_iff_not] at *); omega) ?_) | refine bo_val rfl ?_)
            | (refine is_uo ?_; first | refine uo_val rfl ?_)
            | (refine is_fa ?_; first | refine fa_valn rfl (by (try simp only [nfA, Nat.reduceAdd]) <;> apply rfl) ?_)
            | (refine is_bx ?_; first | refine bx_alloc rfl (by (try simp only [nfA, Nat.reduceAdd]) <;> apply rfl) ?_)
            | (refine is_bi ?_; first | refine bi_val rfl ?_ | refine bi_own rfl (by first | refine lookB_hd | exact lookB_tt lookB_hd | (repeat (first | refine lookB_hd | refine lookB_sl rfl ?_))) ?_ ?_ | refine bi_needN rfl ?_ ?_ | (refine bi_gated rfl (by (try simp only [nfA, Nat.reduceAdd]) <;> apply rfl) ?_; intro _))
            | (refine is_cf 11 ?_; refine cf hc11 rfl ⟨.inl rfl, trivial⟩ ?_)
            | (refine is_cf 12 ?_; first | refine cf (f12_calls) rfl trivial ?_ | refine cf (f12_calls) rfl trivial ?_))
        | refine rl_nil ?_
        | (refine is_aw ?_; first
            | refine aw_seq ?_
            | refine aw_scope ?_
            | refine aw_reg rfl ?_
            | refine aw_draw rfl ?_
            | refine aw_condT rfl ?_
            | refine aw_condF rfl ?_
            | (refine aw_condN rfl ?_ ?_ <;> (intro h; subst h))
            | (refine aw_cond rfl ?_ ?_ <;> (intro h; subst h))
            | refine aw_skip ?_
            | refine aw_ret ?_
            | refine aw_exit ?_
            | refine aw_block ?_
            | refine aw_label ?_)
        | refine tq_n ?_
        | refine ng_n ?_
        | refine ng_r ?_
        | refine ng_x ?_
        | refine ⟨(rfl : regOk _ _ = true), ?_⟩
        | refine tq_r ?_
        | refine tq_x ?_
        | refine bq_n ?_
        | refine bq_x ?_
        | refine bq_r ?_
        | refine bq_o rfl ?_
        | refine fq_r rfl ?_
        | refine fq_n rfl ?_)
    all_goals rfl
  | true =>
    rw [hf] at hc11
    have hr := few_rows hf
    have h13 := f13_calls v (by omega)
    have h22 := f22_calls v (by omega)
    have h23 := f23_calls v
    have h24 := f24_calls v
    have h25 := f25_calls v
    have h19 := f19_calls v
    clear hf
    cases hg : v.gone with
    | true =>
      have h42 := f42_calls_gone v hg
      have h14 := f14_calls_err v y 13 h42
      have h16 := f16_calls_err v x y 13 h42
      have h18 := f18_calls v hg (by omega)
      obtain ⟨K, A, B, ok, h43⟩ : ∃ K A B ok, CallsD Try.prog 43 [.lst 2 (ers v.rows)] (.tup [.str K, .lst 2 (ers A), .lst 2 (ers B), .bool ok]) := by
        rcases half_cases v.rows hr with ⟨_, _, h⟩ | ⟨_, _, h⟩ | ⟨_, K, A, B, _, _, _, h⟩
        · exact ⟨[], [], [], false, h⟩
        · exact ⟨[], [], [], false, h⟩
        · exact ⟨K, A, B, true, h⟩
      have h15 := f15_calls v y K A B ok h43
      have h17 := f17_calls v x y K A B ok h43
      simp only [hg, Bool.not_true, Bool.false_and, Bool.false_eq_true, if_false, if_true] at h15 h17 h19
      obtain ⟨lo, hi, un, ri, ro, go⟩ := v
      simp only at hg
      subst hg
      clear h42 h43
      repeat' (first
          | (refine is_cons ?_; first
              | (refine is_g ?_; first | refine rl_on rfl rfl ?_ | refine rl_off rfl rfl ?_ | refine rl_offU rfl ?_ | (refine rl_case rfl ?_ ?_ <;> (intro h; first | subst h | (simp only [Bool.not_eq_true', Bool.not_eq_false'] at h; subst h))))
              | (refine is_mv ?_; first | refine mv_val rfl ?_)
              | (refine is_ld ?_; first | refine ld_load rfl (by first | refine lookM_hd | exact lookM_sl rfl lookM_hd | (repeat (first | refine lookM_hd | refine lookM_sl rfl ?_))) rfl (by (try simp only [nfA, Nat.reduceAdd]) <;> apply rfl) ?_ | refine ld_valn rfl (by (try simp only [nfA, Nat.reduceAdd]) <;> apply rfl) ?_)
              | (refine is_ex ?_; first | (refine rl_extB rfl ?_; intro _ _) | refine ex_valn rfl (by (try simp only [nfA, Nat.reduceAdd]) <;> apply rfl) ?_)
              | (refine is_pk ?_; first | refine pk_twoT rfl rfl ?_ | refine pk_twoF rfl rfl ?_ | (refine pk_case rfl ?_ ?_ <;> (intro h; subst h)))
              | (refine is_al ?_; first | refine al_alloc rfl (by (try simp only [nfA, Nat.reduceAdd]) <;> apply rfl) ?_)
              | (refine is_st ?_; first | refine st_store rfl (by first | refine lookM_hd | exact lookM_sl rfl lookM_hd | (repeat (first | refine lookM_hd | refine lookM_sl rfl ?_))) rfl (by (try simp only [nfA, Nat.reduceAdd]) <;> apply rfl) ?_)
              | (refine is_as ?_; first | refine as_val rfl ?_ | refine as_new rfl rfl ?_)
              | (refine is_bo ?_; first | refine rl_binT rfl ?_ | refine rl_binF rfl ?_ | (refine rl_binB rfl ?_; intro _ _) | (refine rl_half rfl (by (try simp only [maxLen_eq, List.length_map, decide_eq_true_eq, decide_eq_false_iff_not] at *); omega) ?_) | (refine rl_binW rfl (by (try simp only [maxLen_eq, List.length_map, decide_eq_true_eq, decide_eq_false_iff_not] at *); omega) ?_) | refine bo_val rfl ?_)
              | (refine is_uo ?_; first | refine uo_val rfl ?_)
              | (refine is_fa ?_; first | refine fa_valn rfl (by (try simp only [nfA, Nat.reduceAdd]) <;> apply rfl) ?_)
              | (refine is_bx ?_; first | refine bx_alloc rfl (by (try simp only [nfA, Nat.reduceAdd]) <;> apply rfl) ?_)
              | (refine is_bi ?_; first | refine bi_val rfl ?_ | refine bi_own rfl (by first | refine lookB_hd | exact lookB_tt lookB_hd | (repeat (first | refine lookB_hd | refine lookB_sl rfl ?_))) ?_ ?_ | refine bi_needN rfl ?_ ?_ | (refine bi_gated rfl (by (try simp only [nfA, Nat.reduceAdd]) <;> apply rfl) ?_; intro _))
              | (refine is_cf 11 ?_; refine cf hc11 rfl ⟨.inl rfl, trivial⟩ ?_)
              | (refine is_cf 12 ?_; first | refine cf (f12_calls) rfl trivial ?_ | refine cf (f12_calls) rfl trivial ?_)
              | (refine is_cf 13 ?_; refine cf h13 rfl ⟨.inl rfl, trivial⟩ ?_)
              | (refine is_cf 14 ?_; refine cf h14 rfl ⟨.inl rfl, .inl rfl, trivial⟩ ?_)
              | (refine is_cf 15 ?_; refine cf h15 rfl ⟨.inl rfl, .inl rfl, trivial⟩ ?_)
              | (refine is_cf 16 ?_; refine cf h16 rfl ⟨.inl rfl, .inl rfl, .inl rfl, trivial⟩ ?_)
              | (refine is_cf 17 ?_; refine cf h17 rfl ⟨.inl rfl, .inl rfl, .inl rfl, trivial⟩ ?_)
              | (refine is_cf 18 ?_; refine cf h18 rfl ⟨.inl rfl, trivial⟩ ?_)
              | (refine is_cf 19 ?_; refine cf h19 rfl ⟨.inl rfl, trivial⟩ ?_)
              | (refine is_cf 20 ?_; first | refine cf (f20_calls_nil _) rfl ⟨.inl rfl, .inl rfl, trivial⟩ ?_ | refine cf (f20_calls_code _ _) rfl ⟨.inl rfl, .inl rfl, trivial⟩ ?_)
              | (refine is_cf 22 ?_; refine cf h22 rfl ⟨.inl rfl, trivial⟩ ?_)
              | (refine is_cf 23 ?_; refine cf h23 rfl ⟨.inl rfl, trivial⟩ ?_)
              | (refine is_cf 21 ?_; refine cf (f21_calls _) rfl ⟨.inl rfl, .inl rfl, trivial⟩ ?_)
              | (refine is_cf 25 ?_; refine cf h25 rfl ⟨.inl rfl, trivial⟩ ?_)
              | (refine is_cf 24 ?_; refine cf h24 rfl ⟨.inl rfl, .inl rfl, trivial⟩ ?_))
          | refine rl_nil ?_
          | (refine is_aw ?_; first
              | refine aw_seq ?_
              | refine aw_scope ?_
              | refine aw_reg rfl ?_
              | refine aw_draw rfl ?_
              | refine aw_condT rfl ?_
              | refine aw_condF rfl ?_
              | (refine aw_condN rfl ?_ ?_ <;> (intro h; subst h))
              | (refine aw_cond rfl ?_ ?_ <;> (intro h; subst h))
              | refine aw_skip ?_
              | refine aw_ret ?_
              | refine aw_exit ?_
              | refine aw_block ?_
              | refine aw_label ?_)
          | refine tq_n ?_
          | refine ng_n ?_
          | refine ng_r ?_
          | refine ng_x ?_
          | refine ⟨(rfl : regOk _ _ = true), ?_⟩
          | refine tq_r ?_
          | refine tq_x ?_
          | refine bq_n ?_
          | refine bq_x ?_
          | refine bq_r ?_
          | refine bq_o rfl ?_
          | refine fq_r rfl ?_
          | refine fq_n rfl ?_)
      all_goals first
        | contradiction
        | rfl
        | (exfalso; clear hc11 h13 h14 h15 h16 h17 h18 h19 h22 h23 h24 h25 hbd; subst_vars; simp at *; done)
        | (exfalso; clear hc11 h13 h14 h15 h16 h17 h18 h19 h22 h23 h24 h25 hbd; subst_vars; simp only [maxLen_eq, List.length_map, decide_eq_true_eq, decide_eq_false_iff_not, Int.toNat_natCast, Bool.not_eq_true', Bool.not_eq_false', Bool.not_eq_true, Bool.not_eq_false] at *; omega)
        | skip
    | false =>
      have h18 := f18_calls_no v hg
      rcases half_cases v.rows hr with ⟨hl, h66, h43⟩ | ⟨hl, h66, h43⟩ | ⟨hl, K, A, B, hA, hB, h66, h43⟩
      · have h42 := f42_calls_err v 2 hg h66
        have h14 := f14_calls_err v y 2 h42
        have h16 := f16_calls_err v x y 2 h42
        have h15 := f15_calls v y [] [] [] false h43
        have h17 := f17_calls v x y [] [] [] false h43
        simp only [hg, Bool.not_false, Bool.true_and, Bool.false_eq_true, if_false, if_true] at h15 h17 h19
        obtain ⟨lo, hi, un, ri, ro, go⟩ := v
        simp only at hg hl
        subst hg
        clear h42 h43 h66
        repeat' (first
            | (refine is_cons ?_; first
                | (refine is_g ?_; first | refine rl_on rfl rfl ?_ | refine rl_off rfl rfl ?_ | refine rl_offU rfl ?_ | (refine rl_case rfl ?_ ?_ <;> (intro h; first | subst h | (simp only [Bool.not_eq_true', Bool.not_eq_false'] at h; subst h))))
                | (refine is_mv ?_; first | refine mv_val rfl ?_)
                | (refine is_ld ?_; first | refine ld_load rfl (by first | refine lookM_hd | exact lookM_sl rfl lookM_hd | (repeat (first | refine lookM_hd | refine lookM_sl rfl ?_))) rfl (by (try simp only [nfA, Nat.reduceAdd]) <;> apply rfl) ?_ | refine ld_valn rfl (by (try simp only [nfA, Nat.reduceAdd]) <;> apply rfl) ?_)
                | (refine is_ex ?_; first | (refine rl_extB rfl ?_; intro _ _) | refine ex_valn rfl (by (try simp only [nfA, Nat.reduceAdd]) <;> apply rfl) ?_)
                | (refine is_pk ?_; first | refine pk_twoT rfl rfl ?_ | refine pk_twoF rfl rfl ?_ | (refine pk_case rfl ?_ ?_ <;> (intro h; subst h)))
                | (refine is_al ?_; first | refine al_alloc rfl (by (try simp only [nfA, Nat.reduceAdd]) <;> apply rfl) ?_)
                | (refine is_st ?_; first | refine st_store rfl (by first | refine lookM_hd | exact lookM_sl rfl lookM_hd | (repeat (first | refine lookM_hd | refine lookM_sl rfl ?_))) rfl (by (try simp only [nfA, Nat.reduceAdd]) <;> apply rfl) ?_)
                | (refine is_as ?_; first | refine as_val rfl ?_ | refine as_new rfl rfl ?_)
                | (refine is_bo ?_; first | refine rl_binT rfl ?_ | refine rl_binF rfl ?_ | (refine rl_binB rfl ?_; intro _ _) | (refine rl_half rfl (by (try simp only [maxLen_eq, List.length_map, decide_eq_true_eq, decide_eq_false_iff_not] at *); omega) ?_) | (refine rl_binW rfl (by (try simp only [maxLen_eq, List.length_map, decide_eq_true_eq, decide_eq_false_iff_not] at *); omega) ?_) | refine bo_val rfl ?_)
                | (refine is_uo ?_; first | refine uo_val rfl ?_)
                | (refine is_fa ?_; first | refine fa_valn rfl (by (try simp only [nfA, Nat.reduceAdd]) <;> apply rfl) ?_)
                | (refine is_bx ?_; first | refine bx_alloc rfl (by (try simp only [nfA, Nat.reduceAdd]) <;> apply rfl) ?_)
                | (refine is_bi ?_; first | refine bi_val rfl ?_ | refine bi_own rfl (by first | refine lookB_hd | exact lookB_tt lookB_hd | (repeat (first | refine lookB_hd | refine lookB_sl rfl ?_))) ?_ ?_ | refine bi_needN rfl ?_ ?_ | (refine bi_gated rfl (by (try simp only [nfA, Nat.reduceAdd]) <;> apply rfl) ?_; intro _))
                | (refine is_cf 11 ?_; refine cf hc11 rfl ⟨.inl rfl, trivial⟩ ?_)
                | (refine is_cf 12 ?_; first | refine cf (f12_calls) rfl trivial ?_ | refine cf (f12_calls) rfl trivial ?_)
                | (refine is_cf 13 ?_; refine cf h13 rfl ⟨.inl rfl, trivial⟩ ?_)
                | (refine is_cf 14 ?_; refine cf h14 rfl ⟨.inl rfl, .inl rfl, trivial⟩ ?_)
                | (refine is_cf 15 ?_; refine cf h15 rfl ⟨.inl rfl, .inl rfl, trivial⟩ ?_)
                | (refine is_cf 16 ?_; refine cf h16 rfl ⟨.inl rfl, .inl rfl, .inl rfl, trivial⟩ ?_)
                | (refine is_cf 17 ?_; refine cf h17 rfl ⟨.inl rfl, .inl rfl, .inl rfl, trivial⟩ ?_)
                | (refine is_cf 18 ?_; refine cf h18 rfl ⟨.inl rfl, trivial⟩ ?_)
                | (refine is_cf 19 ?_; refine cf h19 rfl ⟨.inl rfl, trivial⟩ ?_)
                | (refine is_cf 20 ?_; first | refine cf (f20_calls_nil _) rfl ⟨.inl rfl, .inl rfl, trivial⟩ ?_ | refine cf (f20_calls_code _ _) rfl ⟨.inl rfl, .inl rfl, trivial⟩ ?_)
                | (refine is_cf 22 ?_; refine cf h22 rfl ⟨.inl rfl, trivial⟩ ?_)
                | (refine is_cf 23 ?_; refine cf h23 rfl ⟨.inl rfl, trivial⟩ ?_)
                | (refine is_cf 21 ?_; refine cf (f21_calls _) rfl ⟨.inl rfl, .inl rfl, trivial⟩ ?_)
                | (refine is_cf 25 ?_; refine cf h25 rfl ⟨.inl rfl, trivial⟩ ?_)
                | (refine is_cf 24 ?_; refine cf h24 rfl ⟨.inl rfl, .inl rfl, trivial⟩ ?_))
            | refine rl_nil ?_
            | (refine is_aw ?_; first
                | refine aw_seq ?_
                | refine aw_scope ?_
                | refine aw_reg rfl ?_
                | refine aw_draw rfl ?_
                | refine aw_condT rfl ?_
                | refine aw_condF rfl ?_
                | (refine aw_condN rfl ?_ ?_ <;> (intro h; subst h))
                | (refine aw_cond rfl ?_ ?_ <;> (intro h; subst h))
                | refine aw_skip ?_
                | refine aw_ret ?_
                | refine aw_exit ?_
                | refine aw_block ?_
                | refine aw_label ?_)
            | refine tq_n ?_
            | refine ng_n ?_
            | refine ng_r ?_
            | refine ng_x ?_
            | refine ⟨(rfl : regOk _ _ = true), ?_⟩
            | refine tq_r ?_
            | refine tq_x ?_
            | refine bq_n ?_
            | refine bq_x ?_
            | refine bq_r ?_
            | refine bq_o rfl ?_
            | refine fq_r rfl ?_
            | refine fq_n rfl ?_)
        all_goals first
          | contradiction
          | rfl
          | (exfalso; clear hc11 h13 h14 h15 h16 h17 h18 h19 h22 h23 h24 h25 hbd; subst_vars; simp at *; done)
          | (exfalso; clear hc11 h13 h14 h15 h16 h17 h18 h19 h22 h23 h24 h25 hbd; subst_vars; simp only [maxLen_eq, List.length_map, decide_eq_true_eq, decide_eq_false_iff_not, Int.toNat_natCast, Bool.not_eq_true', Bool.not_eq_false', Bool.not_eq_true, Bool.not_eq_false] at *; omega)
          | skip
      · have h42 := f42_calls_err v 1 hg h66
        have h14 := f14_calls_err v y 1 h42
        have h16 := f16_calls_err v x y 1 h42
        have h15 := f15_calls v y [] [] [] false h43
        have h17 := f17_calls v x y [] [] [] false h43
        simp only [hg, Bool.not_false, Bool.true_and, Bool.false_eq_true, if_false, if_true] at h15 h17 h19
        obtain ⟨lo, hi, un, ri, ro, go⟩ := v
        simp only at hg hl
        subst hg
        clear h42 h43 h66
        repeat' (first
            | (refine is_cons ?_; first
                | (refine is_g ?_; first | refine rl_on rfl rfl ?_ | refine rl_off rfl rfl ?_ | refine rl_offU rfl ?_ | (refine rl_case rfl ?_ ?_ <;> (intro h; first | subst h | (simp only [Bool.not_eq_true', Bool.not_eq_false'] at h; subst h))))
                | (refine is_mv ?_; first | refine mv_val rfl ?_)
                | (refine is_ld ?_; first | refine ld_load rfl (by first | refine lookM_hd | exact lookM_sl rfl lookM_hd | (repeat (first | refine lookM_hd | refine lookM_sl rfl ?_))) rfl (by (try simp only [nfA, Nat.reduceAdd]) <;> apply rfl) ?_ | refine ld_valn rfl (by (try simp only [nfA, Nat.reduceAdd]) <;> apply rfl) ?_)
                | (refine is_ex ?_; first | (refine rl_extB rfl ?_; intro _ _) | refine ex_valn rfl (by (try simp only [nfA, Nat.reduceAdd]) <;> apply rfl) ?_)
                | (refine is_pk ?_; first | refine pk_twoT rfl rfl ?_ | refine pk_twoF rfl rfl ?_ | (refine pk_case rfl ?_ ?_ <;> (intro h; subst h)))
                | (refine is_al ?_; first | refine al_alloc rfl (by (try simp only [nfA, Nat.reduceAdd]) <;> apply rfl) ?_)
                | (refine is_st ?_; first | refine st_store rfl (by first | refine lookM_hd | exact lookM_sl rfl lookM_hd | (repeat (first | refine lookM_hd | refine lookM_sl rfl ?_))) rfl (by (try simp only [nfA, Nat.reduceAdd]) <;> apply rfl) ?_)
                | (refine is_as ?_; first | refine as_val rfl ?_ | refine as_new rfl rfl ?_)
                | (refine is_bo ?_; first | refine rl_binT rfl ?_ | refine rl_binF rfl ?_ | (refine rl_binB rfl ?_; intro _ _) | (refine rl_half rfl (by (try simp only [maxLen_eq, List.length_map, decide_eq_true_eq, decide_eq_false_iff_not] at *); omega) ?_) | (refine rl_binW rfl (by (try simp only [maxLen_eq, List.length_map, decide_eq_true_eq, decide_eq_false_iff_not] at *); omega) ?_) | refine bo_val rfl ?_)
                | (refine is_uo ?_; first | refine uo_val rfl ?_)
                | (refine is_fa ?_; first | refine fa_valn rfl (by (try simp only [nfA, Nat.reduceAdd]) <;> apply rfl) ?_)
                | (refine is_bx ?_; first | refine bx_alloc rfl (by (try simp only [nfA, Nat.reduceAdd]) <;> apply rfl) ?_)
                | (refine is_bi ?_; first | refine bi_val rfl ?_ | refine bi_own rfl (by first | refine lookB_hd | exact lookB_tt lookB_hd | (repeat (first | refine lookB_hd | refine lookB_sl rfl ?_))) ?_ ?_ | refine bi_needN rfl ?_ ?_ | (refine bi_gated rfl (by (try simp only [nfA, Nat.reduceAdd]) <;> apply rfl) ?_; intro _))
                | (refine is_cf 11 ?_; refine cf hc11 rfl ⟨.inl rfl, trivial⟩ ?_)
                | (refine is_cf 12 ?_; first | refine cf (f12_calls) rfl trivial ?_ | refine cf (f12_calls) rfl trivial ?_)
                | (refine is_cf 13 ?_; refine cf h13 rfl ⟨.inl rfl, trivial⟩ ?_)
                | (refine is_cf 14 ?_; refine cf h14 rfl ⟨.inl rfl, .inl rfl, trivial⟩ ?_)
                | (refine is_cf 15 ?_; refine cf h15 rfl ⟨.inl rfl, .inl rfl, trivial⟩ ?_)
                | (refine is_cf 16 ?_; refine cf h16 rfl ⟨.inl rfl, .inl rfl, .inl rfl, trivial⟩ ?_)
                | (refine is_cf 17 ?_; refine cf h17 rfl ⟨.inl rfl, .inl rfl, .inl rfl, trivial⟩ ?_)
                | (refine is_cf 18 ?_; refine cf h18 rfl ⟨.inl rfl, trivial⟩ ?_)
                | (refine is_cf 19 ?_; refine cf h19 rfl ⟨.inl rfl, trivial⟩ ?_)
                | (refine is_cf 20 ?_; first | refine cf (f20_calls_nil _) rfl ⟨.inl rfl, .inl rfl, trivial⟩ ?_ | refine cf (f20_calls_code _ _) rfl ⟨.inl rfl, .inl rfl, trivial⟩ ?_)
                | (refine is_cf 22 ?_; refine cf h22 rfl ⟨.inl rfl, trivial⟩ ?_)
                | (refine is_cf 23 ?_; refine cf h23 rfl ⟨.inl rfl, trivial⟩ ?_)
                | (refine is_cf 21 ?_; refine cf (f21_calls _) rfl ⟨.inl rfl, .inl rfl, trivial⟩ ?_)
                | (refine is_cf 25 ?_; refine cf h25 rfl ⟨.inl rfl, trivial⟩ ?_)
                | (refine is_cf 24 ?_; refine cf h24 rfl ⟨.inl rfl, .inl rfl, trivial⟩ ?_))
            | refine rl_nil ?_
            | (refine is_aw ?_; first
                | refine aw_seq ?_
                | refine aw_scope ?_
                | refine aw_reg rfl ?_
                | refine aw_draw rfl ?_
                | refine aw_condT rfl ?_
                | refine aw_condF rfl ?_
                | (refine aw_condN rfl ?_ ?_ <;> (intro h; subst h))
                | (refine aw_cond rfl ?_ ?_ <;> (intro h; subst h))
                | refine aw_skip ?_
                | refine aw_ret ?_
                | refine aw_exit ?_
                | refine aw_block ?_
                | refine aw_label ?_)
            | refine tq_n ?_
            | refine ng_n ?_
            | refine ng_r ?_
            | refine ng_x ?_
            | refine ⟨(rfl : regOk _ _ = true), ?_⟩
            | refine tq_r ?_
            | refine tq_x ?_
            | refine bq_n ?_
            | refine bq_x ?_
            | refine bq_r ?_
            | refine bq_o rfl ?_
            | refine fq_r rfl ?_
            | refine fq_n rfl ?_)
        all_goals first
          | contradiction
          | rfl
          | (exfalso; clear hc11 h13 h14 h15 h16 h17 h18 h19 h22 h23 h24 h25 hbd; subst_vars; simp at *; done)
          | (exfalso; clear hc11 h13 h14 h15 h16 h17 h18 h19 h22 h23 h24 h25 hbd; subst_vars; simp only [maxLen_eq, List.length_map, decide_eq_true_eq, decide_eq_false_iff_not, Int.toNat_natCast, Bool.not_eq_true', Bool.not_eq_false', Bool.not_eq_true, Bool.not_eq_false] at *; omega)
          | skip
      · have h42 := f42_calls_ok v K A B hg h66
        have h14 := f14_calls_ok v y K A B hB h42
        have h16 := f16_calls_ok v x y K A B hA hB h42
        have h15 := f15_calls v y K A B true h43
        have h17 := f17_calls v x y K A B true h43
        simp only [hg, Bool.not_false, Bool.true_and, Bool.false_eq_true, if_false, if_true] at h15 h17 h19
        obtain ⟨lo, hi, un, ri, ro, go⟩ := v
        simp only at hg hl
        subst hg
        clear h42 h43 h66
        repeat' (first
            | (refine is_cons ?_; first
                | (refine is_g ?_; first | refine rl_on rfl rfl ?_ | refine rl_off rfl rfl ?_ | refine rl_offU rfl ?_ | (refine rl_case rfl ?_ ?_ <;> (intro h; first | subst h | (simp only [Bool.not_eq_true', Bool.not_eq_false'] at h; subst h))))
                | (refine is_mv ?_; first | refine mv_val rfl ?_)
                | (refine is_ld ?_; first | refine ld_load rfl (by first | refine lookM_hd | exact lookM_sl rfl lookM_hd | (repeat (first | refine lookM_hd | refine lookM_sl rfl ?_))) rfl (by (try simp only [nfA, Nat.reduceAdd]) <;> apply rfl) ?_ | refine ld_valn rfl (by (try simp only [nfA, Nat.reduceAdd]) <;> apply rfl) ?_)
                | (refine is_ex ?_; first | (refine rl_extB rfl ?_; intro _ _) | refine ex_valn rfl (by (try simp only [nfA, Nat.reduceAdd]) <;> apply rfl) ?_)
                | (refine is_pk ?_; first | refine pk_twoT rfl rfl ?_ | refine pk_twoF rfl rfl ?_ | (refine pk_case rfl ?_ ?_ <;> (intro h; subst h)))
                | (refine is_al ?_; first | refine al_alloc rfl (by (try simp only [nfA, Nat.reduceAdd]) <;> apply rfl) ?_)
                | (refine is_st ?_; first | refine st_store rfl (by first | refine lookM_hd | exact lookM_sl rfl lookM_hd | (repeat (first | refine lookM_hd | refine lookM_sl rfl ?_))) rfl (by (try simp only [nfA, Nat.reduceAdd]) <;> apply rfl) ?_)
                | (refine is_as ?_; first | refine as_val rfl ?_ | refine as_new rfl rfl ?_)
                | (refine is_bo ?_; first | refine rl_binT rfl ?_ | refine rl_binF rfl ?_ | (refine rl_binB rfl ?_; intro _ _) | (refine rl_half rfl (by (try simp only [maxLen_eq, List.length_map, decide_eq_true_eq, decide_eq_false_iff_not] at *); omega) ?_) | (refine rl_binW rfl (by (try simp only [maxLen_eq, List.length_map, decide_eq_true_eq, decide_eq_false_iff_not] at *); omega) ?_) | refine bo_val rfl ?_)
                | (refine is_uo ?_; first | refine uo_val rfl ?_)
                | (refine is_fa ?_; first | refine fa_valn rfl (by (try simp only [nfA, Nat.reduceAdd]) <;> apply rfl) ?_)
                | (refine is_bx ?_; first | refine bx_alloc rfl (by (try simp only [nfA, Nat.reduceAdd]) <;> apply rfl) ?_)
                | (refine is_bi ?_; first | refine bi_val rfl ?_ | refine bi_own rfl (by first | refine lookB_hd | exact lookB_tt lookB_hd | (repeat (first | refine lookB_hd | refine lookB_sl rfl ?_))) ?_ ?_ | refine bi_needN rfl ?_ ?_ | (refine bi_gated rfl (by (try simp only [nfA, Nat.reduceAdd]) <;> apply rfl) ?_; intro _))
                | (refine is_cf 11 ?_; refine cf hc11 rfl ⟨.inl rfl, trivial⟩ ?_)
                | (refine is_cf 12 ?_; first | refine cf (f12_calls) rfl trivial ?_ | refine cf (f12_calls) rfl trivial ?_)
                | (refine is_cf 13 ?_; refine cf h13 rfl ⟨.inl rfl, trivial⟩ ?_)
                | (refine is_cf 14 ?_; refine cf h14 rfl ⟨.inl rfl, .inl rfl, trivial⟩ ?_)
                | (refine is_cf 15 ?_; refine cf h15 rfl ⟨.inl rfl, .inl rfl, trivial⟩ ?_)
                | (refine is_cf 16 ?_; refine cf h16 rfl ⟨.inl rfl, .inl rfl, .inl rfl, trivial⟩ ?_)
                | (refine is_cf 17 ?_; refine cf h17 rfl ⟨.inl rfl, .inl rfl, .inl rfl, trivial⟩ ?_)
                | (refine is_cf 18 ?_; refine cf h18 rfl ⟨.inl rfl, trivial⟩ ?_)
                | (refine is_cf 19 ?_; refine cf h19 rfl ⟨.inl rfl, trivial⟩ ?_)
                | (refine is_cf 20 ?_; first | refine cf (f20_calls_nil _) rfl ⟨.inl rfl, .inl rfl, trivial⟩ ?_ | refine cf (f20_calls_code _ _) rfl ⟨.inl rfl, .inl rfl, trivial⟩ ?_)
                | (refine is_cf 22 ?_; refine cf h22 rfl ⟨.inl rfl, trivial⟩ ?_)
                | (refine is_cf 23 ?_; refine cf h23 rfl ⟨.inl rfl, trivial⟩ ?_)
                | (refine is_cf 21 ?_; refine cf (f21_calls _) rfl ⟨.inl rfl, .inl rfl, trivial⟩ ?_)
                | (refine is_cf 25 ?_; refine cf h25 rfl ⟨.inl rfl, trivial⟩ ?_)
                | (refine is_cf 24 ?_; refine cf h24 rfl ⟨.inl rfl, .inl rfl, trivial⟩ ?_))
            | refine rl_nil ?_
            | (refine is_aw ?_; first
                | refine aw_seq ?_
                | refine aw_scope ?_
                | refine aw_reg rfl ?_
                | refine aw_draw rfl ?_
                | refine aw_condT rfl ?_
                | refine aw_condF rfl ?_
                | (refine aw_condN rfl ?_ ?_ <;> (intro h; subst h))
                | (refine aw_cond rfl ?_ ?_ <;> (intro h; subst h))
                | refine aw_skip ?_
                | refine aw_ret ?_
                | refine aw_exit ?_
                | refine aw_block ?_
                | refine aw_label ?_)
            | refine tq_n ?_
            | refine ng_n ?_
            | refine ng_r ?_
            | refine ng_x ?_
            | refine ⟨(rfl : regOk _ _ = true), ?_⟩
            | refine tq_r ?_
            | refine tq_x ?_
            | refine bq_n ?_
            | refine bq_x ?_
            | refine bq_r ?_
            | refine bq_o rfl ?_
            | refine fq_r rfl ?_
            | refine fq_n rfl ?_)
        all_goals first
          | contradiction
          | rfl
          | (exfalso; clear hc11 h13 h14 h15 h16 h17 h18 h19 h22 h23 h24 h25 hbd; subst_vars; simp at *; done)
          | (exfalso; clear hc11 h13 h14 h15 h16 h17 h18 h19 h22 h23 h24 h25 hbd; subst_vars; simp only [maxLen_eq, List.length_map, decide_eq_true_eq, decide_eq_false_iff_not, Int.toNat_natCast, Bool.not_eq_true', Bool.not_eq_false', Bool.not_eq_true, Bool.not_eq_false] at *; omega)
          | skip
end Go.Proofs.Ytehhgamkijkjgaa.AM.TT
