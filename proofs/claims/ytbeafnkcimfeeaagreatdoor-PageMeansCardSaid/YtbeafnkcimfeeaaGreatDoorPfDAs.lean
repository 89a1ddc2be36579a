/- Contracts of the functions and their models, by the abstract machine. -/
import Derived.Test.YtbeafnkcimfeeaaGreatDoorPfTb
import Derived.Test.YtbeafnkcimfeeaaGreatDoorPfEnc
import Derived.Test.YtbeafnkcimfeeaaGreatDoorAm3
import Derived.Test.YtbeafnkcimfeeaaGreatDoorPfH2
import Derived.WalkKit
import Derived.LaidEql
import Derived.Stop.Asserts
import Derived.RowKitTokens
/- errors.As at a program's code, and fault.Code: what they answer, by walking Go's own text. -/
namespace Go.Proofs.YtbeafnkcimfeeaaGreatDoor.AM.TT
set_option linter.unusedVariables false
set_option linter.unusedSimpArgs false
open Go Go.Proofs.YtbeafnkcimfeeaaGreatDoor.AM Go.Proofs Go.RowKit Go.Extern.Stop Go.Stop Go.Extern
set_option linter.unusedVariables false
set_option linter.unusedSimpArgs false
theorem as_nil (t : Value) (w : World) :
    Calls Tryz.prog 58 #[.nilIface, t] w fun e w' => e = .returned (.bool false) ∧ w' = w := by
  go_enter Tryz.func58, Tryz.ntmps58
  go_wp2
  go_ret
  exact ⟨rfl, rfl⟩
theorem as_valueOf77 (t : Addr) (w : World) : (ReflectliteValue.unpack (.iface 150 (.pointer (some t)))).run Tryz.prog w
    = .ok (.agg #[.pointer (some ⟨1, 150, none⟩), .pointer (some ⟨w.heap.size, 0, none⟩), .int .u64 150]) (w.alloc (.cells #[.pointer (some t)] 150)) := by kernel_rfl
theorem as_valueOf34 (c : Int) (w : World) : (ReflectliteValue.unpack (.iface 48 (.int .i64 c))).run Tryz.prog w
    = .ok (.agg #[.pointer (some ⟨1, 48, none⟩), .pointer (some ⟨w.heap.size, 0, none⟩), .int .u64 130]) (w.alloc (.cells #[.int .i64 c] 48)) := by kernel_rfl
theorem as_type77 (a : Addr) (w : World) : (ReflectliteValue.methodAny (ReflectliteValue.valueError "reflectlite.Value.Type" 0) (fun t _ _ _ => ReflectliteType.toType t) #[.agg #[.pointer (some ⟨1, 150, none⟩), .pointer (some a), .int .u64 150]]).run Tryz.prog w
    = .ok (.iface 281 (.agg #[.pointer (some ⟨1, 150, none⟩)])) w := by kernel_rfl
theorem as_methodKind (h : Value) (w : World) : (Go.method 516 281 (.agg #[h]) "Kind").run Tryz.prog w = .ok (273, h) w := by kernel_rfl
theorem as_kind77 (w : World) : ((ReflectliteType.abiMethod fun t => (fun a : Nat => Value.int IntKind.u8 (a : Int)) <$> Rtype.kind t) #[.pointer (some ⟨1, 150, none⟩)]).run Tryz.prog w = .ok (.int .u8 22) w := by kernel_rfl
theorem as_kind34 (w : World) : ((ReflectliteType.abiMethod fun t => (fun a : Nat => Value.int IntKind.u8 (a : Int)) <$> Rtype.kind t) #[.pointer (some ⟨1, 48, none⟩)]).run Tryz.prog w = .ok (.int .u8 2) w := by kernel_rfl
theorem as_rlm (z : Sem Value) (f : TypeId → Addr → Nat → Nat → Sem Value) (v : Value) :
    ReflectliteValue.method z f #[v] = (do match ← ReflectliteValue.parts v with | none => z | some (t, a, fl) => f t a fl (fl % 32)) := rfl
theorem as_parts77 (a : Addr) (w : World) : (ReflectliteValue.parts (.agg #[.pointer (some ⟨1, 150, none⟩), .pointer (some a), .int .u64 150])).run Tryz.prog w = .ok (some (150, a, 150)) w := by kernel_rfl
theorem as_isNil77 (a p : Addr) (W : World) (ha : W.cell? a = some (.pointer (some p))) :
    (ReflectliteValue.method (ReflectliteValue.valueError "reflectlite.Value.IsNil" 0) ReflectliteValue.isNil #[.agg #[.pointer (some ⟨1, 150, none⟩), .pointer (some a), .int .u64 150]]).run Tryz.prog W = .ok (.bool false) W := by
  rw [as_rlm]
  simp only [Sem.run_bind, as_parts77, Result.andThen]
  simp [ReflectliteValue.isNil, loadVar, isAgg, underlying, Tryz.underlying150, ha, Result.andThen]
theorem as_methodElem (h : Value) (w : World) : (Go.method 516 281 (.agg #[h]) "Elem").run Tryz.prog w = .ok (291, .agg #[h]) w := by kernel_rfl
theorem as_methodImplements (h : Value) (w : World) : (Go.method 516 281 (.agg #[h]) "Implements").run Tryz.prog w = .ok (292, .agg #[h]) w := by kernel_rfl
theorem as_methodAssignableTo (h : Value) (w : World) : (Go.method 516 281 (.agg #[h]) "AssignableTo").run Tryz.prog w = .ok (289, .agg #[h]) w := by kernel_rfl
theorem as_elem77 (w : World) : (ReflectliteType.method ReflectliteType.elem #[.agg #[.pointer (some ⟨1, 150, none⟩)]]).run Tryz.prog w = .ok (.iface 281 (.agg #[.pointer (some ⟨1, 48, none⟩)])) w := by kernel_rfl
theorem as_implements34 (w : World) : (ReflectliteType.relation "Implements" ReflectliteType.implements_ #[.agg #[.pointer (some ⟨1, 48, none⟩)], .iface 281 (.agg #[.pointer (some ⟨1, 32, none⟩)])]).run Tryz.prog w = .ok (.bool true) w := by kernel_rfl
theorem as_typeOf34 (v : Value) (w : World) : (ReflectliteType.typeOf #[.iface 48 v]).run Tryz.prog w = .ok (.iface 281 (.agg #[.pointer (some ⟨1, 48, none⟩)])) w := by kernel_rfl
theorem as_assignable34 (w : World) : (ReflectliteType.relation "AssignableTo" ReflectliteType.assignableTo #[.agg #[.pointer (some ⟨1, 48, none⟩)], .iface 281 (.agg #[.pointer (some ⟨1, 48, none⟩)])]).run Tryz.prog w = .ok (.bool true) w := by kernel_rfl
theorem as_elemOf77 (w : World) : (Rtype.elem? 150).run Tryz.prog w = .ok (some 48) w := by kernel_rfl
theorem as_mk34 (p : Addr) (w : World) : (ReflectliteValue.mk 48 p ReflectliteValue.flagAddr).run Tryz.prog w = .ok (.agg #[.pointer (some ⟨1, 48, none⟩), .pointer (some p), .int .u64 386]) w := by kernel_rfl
theorem as_elemV77 (a p : Addr) (W : World) (ha : W.cell? a = some (.pointer (some p))) :
    (ReflectliteValue.method (ReflectliteValue.valueError "reflectlite.Value.Elem" 0) ReflectliteValue.elem #[.agg #[.pointer (some ⟨1, 150, none⟩), .pointer (some a), .int .u64 150]]).run Tryz.prog W
      = .ok (.agg #[.pointer (some ⟨1, 48, none⟩), .pointer (some p), .int .u64 386]) W := by
  rw [as_rlm]
  simp only [Sem.run_bind, as_parts77, Result.andThen]
  simp [ReflectliteValue.elem, loadVar, isAgg, underlying, Tryz.underlying150, ha, Result.andThen, as_elemOf77, as_mk34]
theorem as_rls (v x : Value) : ReflectliteValue.set #[v, x] = (do
    let (some (dst, a, fl), some (src, b, _)) := (← ReflectliteValue.parts v, ← ReflectliteValue.parts x)
      | unsupported (.noEntry "extern/(internal/reflectlite.Value).Set.zeroValue")
    if fl / ReflectliteValue.flagAddr % 2 == 0 then unsupported (.noEntry "extern/(internal/reflectlite.Value).Set.unaddressable")
    let val ← loadVar src b
    if ← Rtype.directlyAssignable dst src then storeVar dst a val
    else if ← Rtype.implements dst src then
      if (← Rtype.kind src) == 20 then
        match val with
        | .nilIface => unsupported (.noEntry "extern/reflectlite: a nil value of one interface type handed on as a value of another")
        | _ => storeVar dst a val
      else storeVar dst a (.iface src val)
    else panicString ("reflectlite.Set: value of type " ++ (← Rtype.spelt src) ++ " is not assignable to type " ++ (← Rtype.spelt dst))
    pure (.tuple #[])) := rfl
theorem as_parts34a (a : Addr) (w : World) : (ReflectliteValue.parts (.agg #[.pointer (some ⟨1, 48, none⟩), .pointer (some a), .int .u64 386])).run Tryz.prog w = .ok (some (48, a, 386)) w := by kernel_rfl
theorem as_parts34 (a : Addr) (w : World) : (ReflectliteValue.parts (.agg #[.pointer (some ⟨1, 48, none⟩), .pointer (some a), .int .u64 130])).run Tryz.prog w = .ok (some (48, a, 130)) w := by kernel_rfl
theorem as_direct34 (w : World) : (Rtype.directlyAssignable 48 48).run Tryz.prog w = .ok true w := by kernel_rfl
theorem as_set34 (ta b : Addr) (c : Int) (old : Value) (W : World) (hb : W.cell? b = some (.int .i64 c)) (ht : W.cell? ta = some old) (hf : W.frozen? ta = false) :
    (ReflectliteValue.set #[.agg #[.pointer (some ⟨1, 48, none⟩), .pointer (some ta), .int .u64 386], .agg #[.pointer (some ⟨1, 48, none⟩), .pointer (some b), .int .u64 130]]).run Tryz.prog W
      = .ok (.tuple #[]) (W.setCell ta (.int .i64 c)) := by
  rw [as_rls]
  simp only [Sem.run_bind, as_parts34a, as_parts34, Result.andThen]
  simp [ReflectliteValue.flagAddr, loadVar, isAgg, underlying, Tryz.underlying48, hb, Result.andThen, as_direct34, storeVar, Value.cells, storeCells, Addr.add]
  rw [run_store Tryz.prog W ta _ _ (by rfl)]
  simp [ht, hf]
noncomputable def asW (w : World) (t : Addr) (c : Int) : World := ((((w.alloc (.cells #[.pointer (some t)] 150)).alloc (.cells #[.pointer (some ⟨1, 150, none⟩), .pointer (some ⟨w.heap.size, 0, none⟩), .int .u64 150] 227)).alloc (.cells #[.pointer (some ⟨1, 150, none⟩), .pointer (some ⟨w.heap.size, 0, none⟩), .int .u64 150] 227)).alloc (.cells #[.int .i64 c] 48)).setCell t (.int .i64 c)
set_option maxHeartbeats 4000000 in
theorem as_hit (c : Int) (t : Addr) (old : Value) (w : World) (hg : w.cell? ⟨0, 0, none⟩ = some errT) (ht0 : w.cell? t = some old) (hf0 : w.frozen? t = false) :
    Calls Tryz.prog 58 #[.iface 48 (.int .i64 c), .iface 150 (.pointer (some t))] w fun ev w' => ev = .returned (.bool true) ∧ w' = asW w t c := by
  have h6 := @run_callFunc_extern Tryz.prog 108 _ (fun args => ReflectliteValue.unpack (args.getD 0 (.tuple #[]))) Tryz.func108 (by kernel_rfl) (by kernel_rfl) (by kernel_rfl) (by kernel_rfl)
  have h7 := @run_callFunc_extern Tryz.prog 109 _ (ReflectliteValue.methodAny (ReflectliteValue.valueError "reflectlite.Value.Type" 0) (fun t _ _ _ => ReflectliteType.toType t)) Tryz.func109 (by kernel_rfl) (by kernel_rfl) (by kernel_rfl) (by kernel_rfl)
  have h8 := @run_callFunc_extern Tryz.prog 110 _ (ReflectliteValue.method (ReflectliteValue.valueError "reflectlite.Value.IsNil" 0) ReflectliteValue.isNil) Tryz.func110 (by kernel_rfl) (by kernel_rfl) (by kernel_rfl) (by kernel_rfl)
  have h27 := @run_callFunc_extern Tryz.prog 273 _ (ReflectliteType.abiMethod fun t => do pure (.int .u8 (← Rtype.kind t))) Tryz.func273 (by kernel_rfl) (by kernel_rfl) (by kernel_rfl) (by kernel_rfl)
  have h37 := @run_callFunc_extern Tryz.prog 291 _ (ReflectliteType.method ReflectliteType.elem) Tryz.func291 (by kernel_rfl) (by kernel_rfl) (by kernel_rfl) (by kernel_rfl)
  have h38 := @run_callFunc_extern Tryz.prog 292 _ (ReflectliteType.relation "Implements" ReflectliteType.implements_) Tryz.func292 (by kernel_rfl) (by kernel_rfl) (by kernel_rfl) (by kernel_rfl)
  have h10 := @run_callFunc_extern Tryz.prog 142 _ ReflectliteType.typeOf Tryz.func142 (by kernel_rfl) (by kernel_rfl) (by kernel_rfl) (by kernel_rfl)
  have h35 := @run_callFunc_extern Tryz.prog 289 _ (ReflectliteType.relation "AssignableTo" ReflectliteType.assignableTo) Tryz.func289 (by kernel_rfl) (by kernel_rfl) (by kernel_rfl) (by kernel_rfl)
  have h11 := @run_callFunc_extern Tryz.prog 147 _ (ReflectliteValue.method (ReflectliteValue.valueError "reflectlite.Value.Elem" 0) ReflectliteValue.elem) Tryz.func147 (by kernel_rfl) (by kernel_rfl) (by kernel_rfl) (by kernel_rfl)
  have h12 := @run_callFunc_extern Tryz.prog 148 _ ReflectliteValue.set Tryz.func148 (by kernel_rfl) (by kernel_rfl) (by kernel_rfl) (by kernel_rfl)
  have tO := as_typeOf34
  have mA := as_methodAssignableTo
  have a25 := as_assignable34
  have v25 := as_valueOf34
  have f6 := as_valueOf77
  have f7 := as_type77
  have mK := as_methodKind
  have mE := as_methodElem
  have mI := as_methodImplements
  have k27 := as_kind77
  have k25 := as_kind34
  have e27 := as_elem77
  have i25 := as_implements34
  have n8 := as_isNil77 ⟨w.heap.size, 0, none⟩ t ((w.alloc (.cells #[.pointer (some t)] 150)).alloc (.cells #[.pointer (some ⟨1, 150, none⟩), .pointer (some ⟨w.heap.size, 0, none⟩), .int .u64 150] 227)) (by simp)
  unfold errT at hg
  have hlt : 0 < w.heap.size := by
    rcases Nat.eq_zero_or_pos w.heap.size with h0 | h
    · simp [World.cell?, h0] at hg
    · exact h
  have hg2 : ((w.alloc (.cells #[.pointer (some t)] 150)).alloc (.cells #[.pointer (some ⟨1, 150, none⟩), .pointer (some ⟨w.heap.size, 0, none⟩), .int .u64 150] 227)).cell? ⟨0, 0, none⟩ = some (.iface 281 (.agg #[.pointer (some ⟨1, 32, none⟩)])) := by
    rw [World.cell?_alloc_lt _ _ ⟨0, 0, none⟩ (by simp), World.cell?_alloc_lt _ _ ⟨0, 0, none⟩ hlt]; exact hg
  have htl : t.block < w.heap.size := by
    rcases Nat.lt_or_ge t.block w.heap.size with h | h
    · exact h
    · simp [World.cell?, Array.getElem?_eq_none h] at ht0
  have el := as_elemV77 ⟨w.heap.size, 0, none⟩ t (((w.alloc (.cells #[.pointer (some t)] 150)).alloc (.cells #[.pointer (some ⟨1, 150, none⟩), .pointer (some ⟨w.heap.size, 0, none⟩), .int .u64 150] 227)).alloc (.cells #[.pointer (some ⟨1, 150, none⟩), .pointer (some ⟨w.heap.size, 0, none⟩), .int .u64 150] 227)) (by rw [World.cell?_alloc_lt _ _ ⟨w.heap.size, 0, none⟩ (by simp; omega)]; simp)
  have st := as_set34 t ⟨w.heap.size + 1 + 1 + 1, 0, none⟩ c old ((((w.alloc (.cells #[.pointer (some t)] 150)).alloc (.cells #[.pointer (some ⟨1, 150, none⟩), .pointer (some ⟨w.heap.size, 0, none⟩), .int .u64 150] 227)).alloc (.cells #[.pointer (some ⟨1, 150, none⟩), .pointer (some ⟨w.heap.size, 0, none⟩), .int .u64 150] 227)).alloc (.cells #[.int .i64 c] 48))
    (by rw [World.cell?_alloc_at _ _ _ _ (by simp)]; rfl)
    (by rw [World.cell?_alloc_lt _ _ t (by simp; omega), World.cell?_alloc_lt _ _ t (by simp; omega), World.cell?_alloc_lt _ _ t (by simp; omega), World.cell?_alloc_lt _ _ t htl]; exact ht0)
    (by rw [World.frozen?_alloc_old _ _ t (by simp; omega), World.frozen?_alloc_old _ _ t (by simp; omega), World.frozen?_alloc_old _ _ t (by simp; omega), World.frozen?_alloc_old _ _ t (Nat.ne_of_lt htl)]; exact hf0)
  go_enter Tryz.func58, Tryz.ntmps58
  go_wp2
  refine wp_loop_rounds 1 ?_
  rw [rounds_succ]
  go_wp2
  go_ret
  exact ⟨rfl, rfl⟩
theorem code_nil (w : World) : Calls Tryz.prog 16 #[.nilIface] w fun e w' => e = .returned (.int .i64 0) ∧ w' = w.alloc (.cells #[.int .i64 0] 48) := by
  go_enter Tryz.func16, Tryz.ntmps16
  go_wp2_with (first | (go_at_call 58; refine (as_nil _ _).mono ?_; rintro e w' ⟨rfl, rfl⟩))
  go_ret
  exact ⟨rfl, rfl⟩
end Go.Proofs.YtbeafnkcimfeeaaGreatDoor.AM.TT
