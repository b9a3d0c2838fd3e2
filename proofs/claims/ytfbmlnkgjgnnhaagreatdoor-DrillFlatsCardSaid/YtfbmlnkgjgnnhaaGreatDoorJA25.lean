import Derived.Test.YtfbmlnkgjgnnhaaGreatDoorJK2
import Derived.LaidEql
import Derived.Stop.Asserts
import Derived.RowKitTokens
set_option linter.unusedSimpArgs false
set_option linter.unusedVariables false
namespace Go.Proofs.YtfbmlnkgjgnnhaaGreatDoor
open Go.RowKit Go.Extern.Stop Go.Stop Go.Extern

set_option maxRecDepth 100000

/-- errors.As(nil, target). -/
theorem as_nil (t : Value) (w : World) : Calls Tryz.prog 27 #[.nilIface, t] w fun e w' => e = .returned (.bool false) ∧ w' = w := by
  go_enter Tryz.func27, Tryz.ntmps27
  go_wp2
  go_ret
  exact ⟨rfl, rfl⟩

/-! ### closed facts on the model's entries for internal/reflectlite -/
theorem Tryz.rKind (h : Value) (w : World) : (Go.method 323 134 (.agg #[h]) "Kind").run Tryz.prog w = .ok (137, h) w := by kernel_rfl
theorem Tryz.rElem (h : Value) (w : World) : (Go.method 323 134 (.agg #[h]) "Elem").run Tryz.prog w = .ok (150, .agg #[h]) w := by kernel_rfl
theorem Tryz.rImpl (h : Value) (w : World) : (Go.method 323 134 (.agg #[h]) "Implements").run Tryz.prog w = .ok (151, .agg #[h]) w := by kernel_rfl
theorem Tryz.rAssig (h : Value) (w : World) : (Go.method 323 134 (.agg #[h]) "AssignableTo").run Tryz.prog w = .ok (148, .agg #[h]) w := by kernel_rfl
theorem Tryz.fUnwrap (p : Value) (w : World) : (Go.method 323 76 p "Unwrap").run Tryz.prog w = .ok (142, p) w := by kernel_rfl
theorem rlm (z : Sem Value) (f : TypeId → Addr → Nat → Nat → Sem Value) (v : Value) :
    ReflectliteValue.method z f #[v] = (do match ← ReflectliteValue.parts v with | none => z | some (t, a, fl) => f t a fl (fl % 32)) := rfl
theorem rls (v x : Value) : ReflectliteValue.set #[v, x] = (do
    let (some (dst, a, fl), some (src, b, _)) := (← ReflectliteValue.parts v, ← ReflectliteValue.parts x)
      | unsupported (.noEntry "extern/(internal/reflectlite.Value).Set.zeroValue")
    if fl / ReflectliteValue.flagAddr % 2 == 0 then unsupported (.noEntry "extern/(internal/reflectlite.Value).Set.unaddressable")
    let val ← loadVar src b
    if ← Rtype.directlyAssignable dst src then storeVar dst a val
    else if ← Rtype.implements dst src then
      if (← Rtype.kind src) == 20 then
        match val with
        | .nilIface => unsupported (.noEntry "extern/reflectlite: a nil value of one interface type handed on as a value of another")
        | _ => storeVar dst a val
      else storeVar dst a (.iface src val)
    else panicString ("reflectlite.Set: value of type " ++ (← Rtype.spelt src) ++ " is not assignable to type " ++ (← Rtype.spelt dst))
    pure (.tuple #[])) := rfl
theorem Tryz.typeOfFault (v : Value) (w : World) : (ReflectliteType.typeOf #[.iface 76 v]).run Tryz.prog w = .ok (.iface 134 (.agg #[.pointer (some ⟨9, 76, none⟩)])) w := by kernel_rfl
theorem Tryz.lacksAs (v : Value) (xT : TypeId) (w : World) : (Instr.typeAssert (.iface 76 v) xT 139 true).run Tryz.prog w = .ok (.tuple #[.nilIface, .bool false]) w := run_typeAssert_lacksB Tryz.underlying139 (by kernel_rfl) (by kernel_rfl) v xT w
theorem Tryz.hasUnwrap (v : Value) (xT : TypeId) (w : World) : (Instr.typeAssert (.iface 76 v) xT 142 true).run Tryz.prog w = .ok (.tuple #[.iface 76 v, .bool true]) w := run_typeAssert_hasB Tryz.underlying142 (by kernel_rfl) v xT w

/-- package errors' variable -/
def ErrVar (w : World) : Prop := w.cell? ⟨0, 0, none⟩ = some (.iface 134 (.agg #[.pointer (some ⟨9, 24, none⟩)]))
theorem ErrVar.next {w w' : World} (h : ErrVar w) (hb : Below w.heap.size w w') : ErrVar w' := below_cell hb h

/-! ### at the target 75 -/
theorem Tryz.valueOf_errno (t : Addr) (w : World) : (ReflectliteValue.unpack (.iface 75 (.pointer (some t)))).run Tryz.prog w
    = .ok (.agg #[.pointer (some ⟨9, 75, none⟩), .pointer (some ⟨w.heap.size, 0, none⟩), .int .u64 150]) (w.alloc (.cells #[.pointer (some t)] 75)) := by kernel_rfl
theorem Tryz.type_errno (a : Addr) (w : World) : (ReflectliteValue.methodAny (ReflectliteValue.valueError "reflectlite.Value.Type" 0) (fun t _ _ _ => ReflectliteType.toType t) #[.agg #[.pointer (some ⟨9, 75, none⟩), .pointer (some a), .int .u64 150]]).run Tryz.prog w
    = .ok (.iface 134 (.agg #[.pointer (some ⟨9, 75, none⟩)])) w := by kernel_rfl
theorem Tryz.kind_errno (w : World) : ((ReflectliteType.abiMethod fun t => (fun a : Nat => Value.int IntKind.u8 (a : Int)) <$> Rtype.kind t) #[.pointer (some ⟨9, 75, none⟩)]).run Tryz.prog w = .ok (.int .u8 22) w := by kernel_rfl
theorem Tryz.kindE_errno (w : World) : ((ReflectliteType.abiMethod fun t => (fun a : Nat => Value.int IntKind.u8 (a : Int)) <$> Rtype.kind t) #[.pointer (some ⟨9, 33, none⟩)]).run Tryz.prog w = .ok (.int .u8 2) w := by kernel_rfl
theorem Tryz.parts_errno (a : Addr) (w : World) : (ReflectliteValue.parts (.agg #[.pointer (some ⟨9, 75, none⟩), .pointer (some a), .int .u64 150])).run Tryz.prog w = .ok (some (75, a, 150)) w := by kernel_rfl
theorem Tryz.isNil_errno (a p : Addr) (W : World) (ha : W.cell? a = some (.pointer (some p))) :
    (ReflectliteValue.method (ReflectliteValue.valueError "reflectlite.Value.IsNil" 0) ReflectliteValue.isNil #[.agg #[.pointer (some ⟨9, 75, none⟩), .pointer (some a), .int .u64 150]]).run Tryz.prog W = .ok (.bool false) W := by
  rw [rlm]
  simp only [Sem.run_bind, Tryz.parts_errno, Result.andThen]
  simp [ReflectliteValue.isNil, loadVar, isAgg, underlying, Tryz.underlying75, ha, Result.andThen]
theorem Tryz.elem_errno (w : World) : (ReflectliteType.method ReflectliteType.elem #[.agg #[.pointer (some ⟨9, 75, none⟩)]]).run Tryz.prog w = .ok (.iface 134 (.agg #[.pointer (some ⟨9, 33, none⟩)])) w := by kernel_rfl
theorem Tryz.impl_errno (w : World) : (ReflectliteType.relation "Implements" ReflectliteType.implements_ #[.agg #[.pointer (some ⟨9, 33, none⟩)], .iface 134 (.agg #[.pointer (some ⟨9, 24, none⟩)])]).run Tryz.prog w = .ok (.bool true) w := by kernel_rfl
theorem Tryz.typeOf_errno (v : Value) (w : World) : (ReflectliteType.typeOf #[.iface 33 v]).run Tryz.prog w = .ok (.iface 134 (.agg #[.pointer (some ⟨9, 33, none⟩)])) w := by kernel_rfl
theorem Tryz.assig_errno (w : World) : (ReflectliteType.relation "AssignableTo" ReflectliteType.assignableTo #[.agg #[.pointer (some ⟨9, 33, none⟩)], .iface 134 (.agg #[.pointer (some ⟨9, 33, none⟩)])]).run Tryz.prog w = .ok (.bool true) w := by kernel_rfl
theorem Tryz.valueOfE_errno (c : Int) (w : World) : (ReflectliteValue.unpack (.iface 33 (.int .i64 c))).run Tryz.prog w
    = .ok (.agg #[.pointer (some ⟨9, 33, none⟩), .pointer (some ⟨w.heap.size, 0, none⟩), .int .u64 130]) (w.alloc (.cells #[.int .i64 c] 33)) := by kernel_rfl
theorem Tryz.elemOf_errno (w : World) : (Rtype.elem? 75).run Tryz.prog w = .ok (some 33) w := by kernel_rfl
theorem Tryz.mk_errno (p : Addr) (w : World) : (ReflectliteValue.mk 33 p ReflectliteValue.flagAddr).run Tryz.prog w = .ok (.agg #[.pointer (some ⟨9, 33, none⟩), .pointer (some p), .int .u64 386]) w := by kernel_rfl
theorem Tryz.elemV_errno (a p : Addr) (W : World) (ha : W.cell? a = some (.pointer (some p))) :
    (ReflectliteValue.method (ReflectliteValue.valueError "reflectlite.Value.Elem" 0) ReflectliteValue.elem #[.agg #[.pointer (some ⟨9, 75, none⟩), .pointer (some a), .int .u64 150]]).run Tryz.prog W
      = .ok (.agg #[.pointer (some ⟨9, 33, none⟩), .pointer (some p), .int .u64 386]) W := by
  rw [rlm]
  simp only [Sem.run_bind, Tryz.parts_errno, Result.andThen]
  simp [ReflectliteValue.elem, loadVar, isAgg, underlying, Tryz.underlying75, ha, Result.andThen, Tryz.elemOf_errno, Tryz.mk_errno]
theorem Tryz.partsA_errno (a : Addr) (w : World) : (ReflectliteValue.parts (.agg #[.pointer (some ⟨9, 33, none⟩), .pointer (some a), .int .u64 386])).run Tryz.prog w = .ok (some (33, a, 386)) w := by kernel_rfl
theorem Tryz.partsE_errno (a : Addr) (w : World) : (ReflectliteValue.parts (.agg #[.pointer (some ⟨9, 33, none⟩), .pointer (some a), .int .u64 130])).run Tryz.prog w = .ok (some (33, a, 130)) w := by kernel_rfl
theorem Tryz.direct_errno (w : World) : (Rtype.directlyAssignable 33 33).run Tryz.prog w = .ok true w := by kernel_rfl
theorem Tryz.set_errno (ta b : Addr) (c : Int) (old : Value) (W : World) (hb : W.cell? b = some (.int .i64 c)) (ht : W.cell? ta = some old) (hf : W.frozen? ta = false) :
    (ReflectliteValue.set #[.agg #[.pointer (some ⟨9, 33, none⟩), .pointer (some ta), .int .u64 386], .agg #[.pointer (some ⟨9, 33, none⟩), .pointer (some b), .int .u64 130]]).run Tryz.prog W
      = .ok (.tuple #[]) (W.setCell ta (.int .i64 c)) := by
  rw [rls]
  simp only [Sem.run_bind, Tryz.partsA_errno, Tryz.partsE_errno, Result.andThen]
  simp [ReflectliteValue.flagAddr, loadVar, isAgg, underlying, Tryz.underlying33, hb, Result.andThen, Tryz.direct_errno, storeVar, Value.cells, storeCells, Addr.add]
  rw [run_store Tryz.prog W ta _ _ (by rfl)]
  simp [ht, hf]

/-! ### at the target 77 -/
theorem Tryz.valueOf_fault (t : Addr) (w : World) : (ReflectliteValue.unpack (.iface 77 (.pointer (some t)))).run Tryz.prog w
    = .ok (.agg #[.pointer (some ⟨9, 77, none⟩), .pointer (some ⟨w.heap.size, 0, none⟩), .int .u64 150]) (w.alloc (.cells #[.pointer (some t)] 77)) := by kernel_rfl
theorem Tryz.type_fault (a : Addr) (w : World) : (ReflectliteValue.methodAny (ReflectliteValue.valueError "reflectlite.Value.Type" 0) (fun t _ _ _ => ReflectliteType.toType t) #[.agg #[.pointer (some ⟨9, 77, none⟩), .pointer (some a), .int .u64 150]]).run Tryz.prog w
    = .ok (.iface 134 (.agg #[.pointer (some ⟨9, 77, none⟩)])) w := by kernel_rfl
theorem Tryz.kind_fault (w : World) : ((ReflectliteType.abiMethod fun t => (fun a : Nat => Value.int IntKind.u8 (a : Int)) <$> Rtype.kind t) #[.pointer (some ⟨9, 77, none⟩)]).run Tryz.prog w = .ok (.int .u8 22) w := by kernel_rfl
theorem Tryz.kindE_fault (w : World) : ((ReflectliteType.abiMethod fun t => (fun a : Nat => Value.int IntKind.u8 (a : Int)) <$> Rtype.kind t) #[.pointer (some ⟨9, 76, none⟩)]).run Tryz.prog w = .ok (.int .u8 22) w := by kernel_rfl
theorem Tryz.parts_fault (a : Addr) (w : World) : (ReflectliteValue.parts (.agg #[.pointer (some ⟨9, 77, none⟩), .pointer (some a), .int .u64 150])).run Tryz.prog w = .ok (some (77, a, 150)) w := by kernel_rfl
theorem Tryz.isNil_fault (a p : Addr) (W : World) (ha : W.cell? a = some (.pointer (some p))) :
    (ReflectliteValue.method (ReflectliteValue.valueError "reflectlite.Value.IsNil" 0) ReflectliteValue.isNil #[.agg #[.pointer (some ⟨9, 77, none⟩), .pointer (some a), .int .u64 150]]).run Tryz.prog W = .ok (.bool false) W := by
  rw [rlm]
  simp only [Sem.run_bind, Tryz.parts_fault, Result.andThen]
  simp [ReflectliteValue.isNil, loadVar, isAgg, underlying, Tryz.underlying77, ha, Result.andThen]
theorem Tryz.elem_fault (w : World) : (ReflectliteType.method ReflectliteType.elem #[.agg #[.pointer (some ⟨9, 77, none⟩)]]).run Tryz.prog w = .ok (.iface 134 (.agg #[.pointer (some ⟨9, 76, none⟩)])) w := by kernel_rfl
theorem Tryz.impl_fault (w : World) : (ReflectliteType.relation "Implements" ReflectliteType.implements_ #[.agg #[.pointer (some ⟨9, 76, none⟩)], .iface 134 (.agg #[.pointer (some ⟨9, 24, none⟩)])]).run Tryz.prog w = .ok (.bool true) w := by kernel_rfl
theorem Tryz.typeOf_fault (v : Value) (w : World) : (ReflectliteType.typeOf #[.iface 76 v]).run Tryz.prog w = .ok (.iface 134 (.agg #[.pointer (some ⟨9, 76, none⟩)])) w := by kernel_rfl
theorem Tryz.assig_fault (w : World) : (ReflectliteType.relation "AssignableTo" ReflectliteType.assignableTo #[.agg #[.pointer (some ⟨9, 76, none⟩)], .iface 134 (.agg #[.pointer (some ⟨9, 76, none⟩)])]).run Tryz.prog w = .ok (.bool true) w := by kernel_rfl
theorem Tryz.valueOfE_fault (e : Addr) (w : World) : (ReflectliteValue.unpack (.iface 76 (.pointer (some e)))).run Tryz.prog w
    = .ok (.agg #[.pointer (some ⟨9, 76, none⟩), .pointer (some ⟨w.heap.size, 0, none⟩), .int .u64 150]) (w.alloc (.cells #[.pointer (some e)] 76)) := by kernel_rfl
theorem Tryz.elemOf_fault (w : World) : (Rtype.elem? 77).run Tryz.prog w = .ok (some 76) w := by kernel_rfl
theorem Tryz.mk_fault (p : Addr) (w : World) : (ReflectliteValue.mk 76 p ReflectliteValue.flagAddr).run Tryz.prog w = .ok (.agg #[.pointer (some ⟨9, 76, none⟩), .pointer (some p), .int .u64 406]) w := by kernel_rfl
theorem Tryz.elemV_fault (a p : Addr) (W : World) (ha : W.cell? a = some (.pointer (some p))) :
    (ReflectliteValue.method (ReflectliteValue.valueError "reflectlite.Value.Elem" 0) ReflectliteValue.elem #[.agg #[.pointer (some ⟨9, 77, none⟩), .pointer (some a), .int .u64 150]]).run Tryz.prog W
      = .ok (.agg #[.pointer (some ⟨9, 76, none⟩), .pointer (some p), .int .u64 406]) W := by
  rw [rlm]
  simp only [Sem.run_bind, Tryz.parts_fault, Result.andThen]
  simp [ReflectliteValue.elem, loadVar, isAgg, underlying, Tryz.underlying77, ha, Result.andThen, Tryz.elemOf_fault, Tryz.mk_fault]
theorem Tryz.partsA_fault (a : Addr) (w : World) : (ReflectliteValue.parts (.agg #[.pointer (some ⟨9, 76, none⟩), .pointer (some a), .int .u64 406])).run Tryz.prog w = .ok (some (76, a, 406)) w := by kernel_rfl
theorem Tryz.partsE_fault (a : Addr) (w : World) : (ReflectliteValue.parts (.agg #[.pointer (some ⟨9, 76, none⟩), .pointer (some a), .int .u64 150])).run Tryz.prog w = .ok (some (76, a, 150)) w := by kernel_rfl
theorem Tryz.direct_fault (w : World) : (Rtype.directlyAssignable 76 76).run Tryz.prog w = .ok true w := by kernel_rfl
theorem Tryz.set_fault (ta b : Addr) (e : Addr) (old : Value) (W : World) (hb : W.cell? b = some (.pointer (some e))) (ht : W.cell? ta = some old) (hf : W.frozen? ta = false) :
    (ReflectliteValue.set #[.agg #[.pointer (some ⟨9, 76, none⟩), .pointer (some ta), .int .u64 406], .agg #[.pointer (some ⟨9, 76, none⟩), .pointer (some b), .int .u64 150]]).run Tryz.prog W
      = .ok (.tuple #[]) (W.setCell ta (.pointer (some e))) := by
  rw [rls]
  simp only [Sem.run_bind, Tryz.partsA_fault, Tryz.partsE_fault, Result.andThen]
  simp [ReflectliteValue.flagAddr, loadVar, isAgg, underlying, Tryz.underlying76, hb, Result.andThen, Tryz.direct_fault, storeVar, Value.cells, storeCells, Addr.add]
  rw [run_store Tryz.prog W ta _ _ (by rfl)]
  simp [ht, hf]

set_option maxHeartbeats 4000000 in
theorem as_fault (fb : Nat) (t : Addr) (old : Value) (a c : Int) (w : World) (hE : ErrVar w) (hF : w.heap[fb]? = some (.cells #[.int .i64 a, .iface 33 (.int .i64 c)] 79 (0, 0))) (ht0 : w.cell? t = some old) (hf0 : w.frozen? t = false) :
    Calls Tryz.prog 27 #[.iface 76 (.pointer (some ⟨fb, 0, none⟩)), .iface 77 (.pointer (some t))] w fun ev w' => ev = .returned (.bool true) ∧ w' = ((((w.alloc (.cells #[.pointer (some t)] 77)).alloc (.cells #[.pointer (some ⟨9, 77, none⟩), .pointer (some ⟨w.heap.size, 0, none⟩), .int .u64 150] 111)).alloc (.cells #[.pointer (some ⟨9, 77, none⟩), .pointer (some ⟨w.heap.size, 0, none⟩), .int .u64 150] 111)).alloc (.cells #[.pointer (some ⟨fb, 0, none⟩)] 76)).setCell t (.pointer (some ⟨fb, 0, none⟩)) := by
  have h6 := @run_callFunc_extern Tryz.prog 51 _ (fun args => ReflectliteValue.unpack (args.getD 0 (.tuple #[]))) Tryz.func51 (by kernel_rfl) (by kernel_rfl) (by kernel_rfl) (by kernel_rfl)
  have h7 := @run_callFunc_extern Tryz.prog 52 _ (ReflectliteValue.methodAny (ReflectliteValue.valueError "reflectlite.Value.Type" 0) (fun t _ _ _ => ReflectliteType.toType t)) Tryz.func52 (by kernel_rfl) (by kernel_rfl) (by kernel_rfl) (by kernel_rfl)
  have h8 := @run_callFunc_extern Tryz.prog 53 _ (ReflectliteValue.method (ReflectliteValue.valueError "reflectlite.Value.IsNil" 0) ReflectliteValue.isNil) Tryz.func53 (by kernel_rfl) (by kernel_rfl) (by kernel_rfl) (by kernel_rfl)
  have h27 := @run_callFunc_extern Tryz.prog 137 _ (ReflectliteType.abiMethod fun t => do pure (.int .u8 (← Rtype.kind t))) Tryz.func137 (by kernel_rfl) (by kernel_rfl) (by kernel_rfl) (by kernel_rfl)
  have h37 := @run_callFunc_extern Tryz.prog 150 _ (ReflectliteType.method ReflectliteType.elem) Tryz.func150 (by kernel_rfl) (by kernel_rfl) (by kernel_rfl) (by kernel_rfl)
  have h38 := @run_callFunc_extern Tryz.prog 151 _ (ReflectliteType.relation "Implements" ReflectliteType.implements_) Tryz.func151 (by kernel_rfl) (by kernel_rfl) (by kernel_rfl) (by kernel_rfl)
  have h10 := @run_callFunc_extern Tryz.prog 73 _ ReflectliteType.typeOf Tryz.func73 (by kernel_rfl) (by kernel_rfl) (by kernel_rfl) (by kernel_rfl)
  have h35 := @run_callFunc_extern Tryz.prog 148 _ (ReflectliteType.relation "AssignableTo" ReflectliteType.assignableTo) Tryz.func148 (by kernel_rfl) (by kernel_rfl) (by kernel_rfl) (by kernel_rfl)
  have h11 := @run_callFunc_extern Tryz.prog 74 _ (ReflectliteValue.method (ReflectliteValue.valueError "reflectlite.Value.Elem" 0) ReflectliteValue.elem) Tryz.func74 (by kernel_rfl) (by kernel_rfl) (by kernel_rfl) (by kernel_rfl)
  have h12 := @run_callFunc_extern Tryz.prog 75 _ ReflectliteValue.set Tryz.func75 (by kernel_rfl) (by kernel_rfl) (by kernel_rfl) (by kernel_rfl)
  have mK := Tryz.rKind
  have mE := Tryz.rElem
  have mI := Tryz.rImpl
  have mA := Tryz.rAssig
  have tO := Tryz.typeOf_fault
  have aE := Tryz.assig_fault
  have vE := Tryz.valueOfE_fault
  have f6 := Tryz.valueOf_fault
  have f7 := Tryz.type_fault
  have kP := Tryz.kind_fault
  have kE := Tryz.kindE_fault
  have eP := Tryz.elem_fault
  have iE := Tryz.impl_fault
  have hlt : 0 < w.heap.size := cell_lt hE
  have htl : t.block < w.heap.size := cell_lt ht0
  have hfl := lt_of hF
  have n8 := Tryz.isNil_fault ⟨w.heap.size, 0, none⟩ t ((w.alloc (.cells #[.pointer (some t)] 77)).alloc (.cells #[.pointer (some ⟨9, 77, none⟩), .pointer (some ⟨w.heap.size, 0, none⟩), .int .u64 150] 111)) (by simp)
  have hg2 : ((w.alloc (.cells #[.pointer (some t)] 77)).alloc (.cells #[.pointer (some ⟨9, 77, none⟩), .pointer (some ⟨w.heap.size, 0, none⟩), .int .u64 150] 111)).cell? ⟨0, 0, none⟩ = some (.iface 134 (.agg #[.pointer (some ⟨9, 24, none⟩)])) := cell_old (cell_old hE)
  have el := Tryz.elemV_fault ⟨w.heap.size, 0, none⟩ t (((w.alloc (.cells #[.pointer (some t)] 77)).alloc (.cells #[.pointer (some ⟨9, 77, none⟩), .pointer (some ⟨w.heap.size, 0, none⟩), .int .u64 150] 111)).alloc (.cells #[.pointer (some ⟨9, 77, none⟩), .pointer (some ⟨w.heap.size, 0, none⟩), .int .u64 150] 111)) (cell_old (cell_old (cell_one (heap_new w _))))
  have st := Tryz.set_fault t ⟨w.heap.size + 1 + 1 + 1, 0, none⟩ ⟨fb, 0, none⟩ old ((((w.alloc (.cells #[.pointer (some t)] 77)).alloc (.cells #[.pointer (some ⟨9, 77, none⟩), .pointer (some ⟨w.heap.size, 0, none⟩), .int .u64 150] 111)).alloc (.cells #[.pointer (some ⟨9, 77, none⟩), .pointer (some ⟨w.heap.size, 0, none⟩), .int .u64 150] 111)).alloc (.cells #[.pointer (some ⟨fb, 0, none⟩)] 76))
    (by rw [World.cell?_alloc_at _ _ _ _ (by simp)]; rfl)
    (cell_old (cell_old (cell_old (cell_old ht0))))
    (by rw [World.frozen?_alloc_old _ _ t (by simp; omega), World.frozen?_alloc_old _ _ t (by simp; omega), World.frozen?_alloc_old _ _ t (by simp; omega), World.frozen?_alloc_old _ _ t (Nat.ne_of_lt htl)]; exact hf0)
  go_enter Tryz.func27, Tryz.ntmps27
  go_wp2
  refine wp_loop_rounds 1 ?_
  rw [rounds_succ]
  go_wp2
  go_ret
  exact ⟨rfl, rfl⟩

set_option maxHeartbeats 4000000 in
theorem as_errno (fb : Nat) (t : Addr) (old : Value) (a c : Int) (w : World) (hE : ErrVar w) (hF : w.heap[fb]? = some (.cells #[.int .i64 a, .iface 33 (.int .i64 c)] 79 (0, 0))) (ht0 : w.cell? t = some old) (hf0 : w.frozen? t = false) :
    Calls Tryz.prog 27 #[.iface 76 (.pointer (some ⟨fb, 0, none⟩)), .iface 75 (.pointer (some t))] w fun ev w' => ev = .returned (.bool true) ∧ w' = ((((w.alloc (.cells #[.pointer (some t)] 75)).alloc (.cells #[.pointer (some ⟨9, 75, none⟩), .pointer (some ⟨w.heap.size, 0, none⟩), .int .u64 150] 111)).alloc (.cells #[.pointer (some ⟨9, 75, none⟩), .pointer (some ⟨w.heap.size, 0, none⟩), .int .u64 150] 111)).alloc (.cells #[.int .i64 c] 33)).setCell t (.int .i64 c) := by
  have h6 := @run_callFunc_extern Tryz.prog 51 _ (fun args => ReflectliteValue.unpack (args.getD 0 (.tuple #[]))) Tryz.func51 (by kernel_rfl) (by kernel_rfl) (by kernel_rfl) (by kernel_rfl)
  have h7 := @run_callFunc_extern Tryz.prog 52 _ (ReflectliteValue.methodAny (ReflectliteValue.valueError "reflectlite.Value.Type" 0) (fun t _ _ _ => ReflectliteType.toType t)) Tryz.func52 (by kernel_rfl) (by kernel_rfl) (by kernel_rfl) (by kernel_rfl)
  have h8 := @run_callFunc_extern Tryz.prog 53 _ (ReflectliteValue.method (ReflectliteValue.valueError "reflectlite.Value.IsNil" 0) ReflectliteValue.isNil) Tryz.func53 (by kernel_rfl) (by kernel_rfl) (by kernel_rfl) (by kernel_rfl)
  have h27 := @run_callFunc_extern Tryz.prog 137 _ (ReflectliteType.abiMethod fun t => do pure (.int .u8 (← Rtype.kind t))) Tryz.func137 (by kernel_rfl) (by kernel_rfl) (by kernel_rfl) (by kernel_rfl)
  have h37 := @run_callFunc_extern Tryz.prog 150 _ (ReflectliteType.method ReflectliteType.elem) Tryz.func150 (by kernel_rfl) (by kernel_rfl) (by kernel_rfl) (by kernel_rfl)
  have h38 := @run_callFunc_extern Tryz.prog 151 _ (ReflectliteType.relation "Implements" ReflectliteType.implements_) Tryz.func151 (by kernel_rfl) (by kernel_rfl) (by kernel_rfl) (by kernel_rfl)
  have h10 := @run_callFunc_extern Tryz.prog 73 _ ReflectliteType.typeOf Tryz.func73 (by kernel_rfl) (by kernel_rfl) (by kernel_rfl) (by kernel_rfl)
  have h35 := @run_callFunc_extern Tryz.prog 148 _ (ReflectliteType.relation "AssignableTo" ReflectliteType.assignableTo) Tryz.func148 (by kernel_rfl) (by kernel_rfl) (by kernel_rfl) (by kernel_rfl)
  have h11 := @run_callFunc_extern Tryz.prog 74 _ (ReflectliteValue.method (ReflectliteValue.valueError "reflectlite.Value.Elem" 0) ReflectliteValue.elem) Tryz.func74 (by kernel_rfl) (by kernel_rfl) (by kernel_rfl) (by kernel_rfl)
  have h12 := @run_callFunc_extern Tryz.prog 75 _ ReflectliteValue.set Tryz.func75 (by kernel_rfl) (by kernel_rfl) (by kernel_rfl) (by kernel_rfl)
  have mK := Tryz.rKind
  have mE := Tryz.rElem
  have mI := Tryz.rImpl
  have mA := Tryz.rAssig
  have tO := Tryz.typeOf_errno
  have aE := Tryz.assig_errno
  have vE := Tryz.valueOfE_errno
  have f6 := Tryz.valueOf_errno
  have f7 := Tryz.type_errno
  have kP := Tryz.kind_errno
  have kE := Tryz.kindE_errno
  have eP := Tryz.elem_errno
  have iE := Tryz.impl_errno
  have mU := Tryz.fUnwrap
  have tF := Tryz.typeOfFault
  have lA := Tryz.lacksAs
  have hU := Tryz.hasUnwrap
  have nA : ∀ w, (ReflectliteType.relation "AssignableTo" ReflectliteType.assignableTo #[.agg #[.pointer (some ⟨9, 76, none⟩)], .iface 134 (.agg #[.pointer (some ⟨9, 33, none⟩)])]).run Tryz.prog w = .ok (.bool false) w := fun w => by kernel_rfl
  have hlt : 0 < w.heap.size := cell_lt hE
  have htl : t.block < w.heap.size := cell_lt ht0
  have hfl := lt_of hF
  have n8 := Tryz.isNil_errno ⟨w.heap.size, 0, none⟩ t ((w.alloc (.cells #[.pointer (some t)] 75)).alloc (.cells #[.pointer (some ⟨9, 75, none⟩), .pointer (some ⟨w.heap.size, 0, none⟩), .int .u64 150] 111)) (by simp)
  have hg2 : ((w.alloc (.cells #[.pointer (some t)] 75)).alloc (.cells #[.pointer (some ⟨9, 75, none⟩), .pointer (some ⟨w.heap.size, 0, none⟩), .int .u64 150] 111)).cell? ⟨0, 0, none⟩ = some (.iface 134 (.agg #[.pointer (some ⟨9, 24, none⟩)])) := cell_old (cell_old hE)
  have el := Tryz.elemV_errno ⟨w.heap.size, 0, none⟩ t (((w.alloc (.cells #[.pointer (some t)] 75)).alloc (.cells #[.pointer (some ⟨9, 75, none⟩), .pointer (some ⟨w.heap.size, 0, none⟩), .int .u64 150] 111)).alloc (.cells #[.pointer (some ⟨9, 75, none⟩), .pointer (some ⟨w.heap.size, 0, none⟩), .int .u64 150] 111)) (cell_old (cell_old (cell_one (heap_new w _))))
  have hfc : (((w.alloc (.cells #[.pointer (some t)] 75)).alloc (.cells #[.pointer (some ⟨9, 75, none⟩), .pointer (some ⟨w.heap.size, 0, none⟩), .int .u64 150] 111)).alloc (.cells #[.pointer (some ⟨9, 75, none⟩), .pointer (some ⟨w.heap.size, 0, none⟩), .int .u64 150] 111)).cell? ⟨fb, 1, none⟩ = some (.iface 33 (.int .i64 c)) := cell_old (cell_old (cell_old (cell_of hF rfl)))
  have st := Tryz.set_errno t ⟨w.heap.size + 1 + 1 + 1, 0, none⟩ c old ((((w.alloc (.cells #[.pointer (some t)] 75)).alloc (.cells #[.pointer (some ⟨9, 75, none⟩), .pointer (some ⟨w.heap.size, 0, none⟩), .int .u64 150] 111)).alloc (.cells #[.pointer (some ⟨9, 75, none⟩), .pointer (some ⟨w.heap.size, 0, none⟩), .int .u64 150] 111)).alloc (.cells #[.int .i64 c] 33))
    (by rw [World.cell?_alloc_at _ _ _ _ (by simp)]; rfl)
    (cell_old (cell_old (cell_old (cell_old ht0))))
    (by rw [World.frozen?_alloc_old _ _ t (by simp; omega), World.frozen?_alloc_old _ _ t (by simp; omega), World.frozen?_alloc_old _ _ t (by simp; omega), World.frozen?_alloc_old _ _ t (Nat.ne_of_lt htl)]; exact hf0)
  go_enter Tryz.func27, Tryz.ntmps27
  go_wp2
  refine wp_loop_rounds 2 ?_
  rw [rounds_succ]
  go_wp2
  rw [rounds_succ]
  go_wp2
  go_ret
  exact ⟨rfl, rfl⟩

theorem set_reads {w : World} {t : Addr} {old v : Value} (ho : w.cell? t = some old) : (w.setCell t v).cell? t = some v := by
  obtain ⟨v', h⟩ := cell?_setCell_some (w := w) (p := t) (x := v) (q := t) (v := old) ho
  rw [World.cell?_setCell_same _ _ _ ho] at h ⊢
theorem as_errno2 (fb B : Nat) (t : Addr) (old : Value) (a c : Int) (w : World) (hE : ErrVar w) (hF : w.heap[fb]? = some (.cells #[.int .i64 a, .iface 33 (.int .i64 c)] 79 (0, 0))) (ht0 : w.cell? t = some old) (hf0 : w.frozen? t = false) (hB : B ≤ t.block) :
    Calls Tryz.prog 27 #[.iface 76 (.pointer (some ⟨fb, 0, none⟩)), .iface 75 (.pointer (some t))] w fun ev w' => ev = .returned (.bool true) ∧ w'.cell? t = some (.int .i64 c) ∧ Below B w w' := by
  have htl := cell_lt ht0
  refine (as_errno fb t old a c w hE hF ht0 hf0).mono ?_
  rintro e w' ⟨rfl, rfl⟩
  refine ⟨rfl, set_reads (cell_old (cell_old (cell_old (cell_old ht0)))), Below.setCell ?_ hB _⟩
  exact ((((Below.refl B w).alloc (by omega) _).alloc (by simp; omega) _).alloc (by simp; omega) _).alloc (by simp; omega) _
theorem as_fault2 (fb B : Nat) (t : Addr) (old : Value) (a c : Int) (w : World) (hE : ErrVar w) (hF : w.heap[fb]? = some (.cells #[.int .i64 a, .iface 33 (.int .i64 c)] 79 (0, 0))) (ht0 : w.cell? t = some old) (hf0 : w.frozen? t = false) (hB : B ≤ t.block) :
    Calls Tryz.prog 27 #[.iface 76 (.pointer (some ⟨fb, 0, none⟩)), .iface 77 (.pointer (some t))] w fun ev w' => ev = .returned (.bool true) ∧ w'.cell? t = some (.pointer (some ⟨fb, 0, none⟩)) ∧ Below B w w' := by
  have htl := cell_lt ht0
  refine (as_fault fb t old a c w hE hF ht0 hf0).mono ?_
  rintro e w' ⟨rfl, rfl⟩
  refine ⟨rfl, set_reads (cell_old (cell_old (cell_old (cell_old ht0)))), Below.setCell ?_ hB _⟩
  exact ((((Below.refl B w).alloc (by omega) _).alloc (by simp; omega) _).alloc (by simp; omega) _).alloc (by simp; omega) _

end Go.Proofs.YtfbmlnkgjgnnhaaGreatDoor
