/- errors.As at '*api.Fault', for a Fault: by Go's text (after the guide's worked ToyasAs). -/
import Derived.Test.YtjmlficbnljiaaaDoorErr
namespace Go.Proofs.YtjmlficbnljiaaaDoor
open Go.RowKit Go.Extern.Stop Go.Stop Go.Extern

theorem As.valueOfP (t : Addr) (w : World) : (ReflectliteValue.unpack (.iface 107 (.pointer (some t)))).run Tryd.prog w
    = .ok (.agg #[.pointer (some ⟨11, 107, none⟩), .pointer (some ⟨w.heap.size, 0, none⟩), .int .u64 150]) (w.alloc (.cells #[.pointer (some t)] 107)) := by kernel_rfl
theorem As.typeP (a : Addr) (w : World) : (ReflectliteValue.methodAny (ReflectliteValue.valueError "reflectlite.Value.Type" 0) (fun t _ _ _ => ReflectliteType.toType t) #[.agg #[.pointer (some ⟨11, 107, none⟩), .pointer (some a), .int .u64 150]]).run Tryd.prog w
    = .ok (.iface 144 (.agg #[.pointer (some ⟨11, 107, none⟩)])) w := by kernel_rfl
theorem As.methodKind (h : Value) (w : World) : (Go.method 293 144 (.agg #[h]) "Kind").run Tryd.prog w = .ok (99, h) w := by kernel_rfl
theorem As.kindP (w : World) : ((ReflectliteType.abiMethod fun t => (fun a : Nat => Value.int IntKind.u8 (a : Int)) <$> Rtype.kind t) #[.pointer (some ⟨11, 107, none⟩)]).run Tryd.prog w = .ok (.int .u8 22) w := by kernel_rfl
theorem As.kindF (w : World) : ((ReflectliteType.abiMethod fun t => (fun a : Nat => Value.int IntKind.u8 (a : Int)) <$> Rtype.kind t) #[.pointer (some ⟨11, 103, none⟩)]).run Tryd.prog w = .ok (.int .u8 25) w := by kernel_rfl
theorem As.rlm (z : Sem Value) (f : TypeId → Addr → Nat → Nat → Sem Value) (v : Value) :
    ReflectliteValue.method z f #[v] = (do match ← ReflectliteValue.parts v with | none => z | some (t, a, fl) => f t a fl (fl % 32)) := rfl
theorem As.partsP (a : Addr) (w : World) : (ReflectliteValue.parts (.agg #[.pointer (some ⟨11, 107, none⟩), .pointer (some a), .int .u64 150])).run Tryd.prog w = .ok (some (107, a, 150)) w := by kernel_rfl
theorem As.isNilP (a p : Addr) (W : World) (ha : W.cell? a = some (.pointer (some p))) :
    (ReflectliteValue.method (ReflectliteValue.valueError "reflectlite.Value.IsNil" 0) ReflectliteValue.isNil #[.agg #[.pointer (some ⟨11, 107, none⟩), .pointer (some a), .int .u64 150]]).run Tryd.prog W = .ok (.bool false) W := by
  rw [As.rlm]
  simp only [Sem.run_bind, As.partsP, Result.andThen]
  simp [ReflectliteValue.isNil, loadVar, isAgg, underlying, Tryd.underlying107, ha, Result.andThen]
theorem As.methodElem (h : Value) (w : World) : (Go.method 293 144 (.agg #[h]) "Elem").run Tryd.prog w = .ok (110, .agg #[h]) w := by kernel_rfl
theorem As.methodImplements (h : Value) (w : World) : (Go.method 293 144 (.agg #[h]) "Implements").run Tryd.prog w = .ok (111, .agg #[h]) w := by kernel_rfl
theorem As.methodAssignableTo (h : Value) (w : World) : (Go.method 293 144 (.agg #[h]) "AssignableTo").run Tryd.prog w = .ok (108, .agg #[h]) w := by kernel_rfl
theorem As.elemP (w : World) : (ReflectliteType.method ReflectliteType.elem #[.agg #[.pointer (some ⟨11, 107, none⟩)]]).run Tryd.prog w = .ok (.iface 144 (.agg #[.pointer (some ⟨11, 103, none⟩)])) w := by kernel_rfl
theorem As.implementsF (w : World) : (ReflectliteType.relation "Implements" ReflectliteType.implements_ #[.agg #[.pointer (some ⟨11, 103, none⟩)], .iface 144 (.agg #[.pointer (some ⟨11, 25, none⟩)])]).run Tryd.prog w = .ok (.bool true) w := by kernel_rfl
theorem As.typeOfF (v : Value) (w : World) : (ReflectliteType.typeOf #[.iface 103 v]).run Tryd.prog w = .ok (.iface 144 (.agg #[.pointer (some ⟨11, 103, none⟩)])) w := by kernel_rfl
theorem As.assignableF (w : World) : (ReflectliteType.relation "AssignableTo" ReflectliteType.assignableTo #[.agg #[.pointer (some ⟨11, 103, none⟩)], .iface 144 (.agg #[.pointer (some ⟨11, 103, none⟩)])]).run Tryd.prog w = .ok (.bool true) w := by kernel_rfl
theorem As.valueOfF (op : ByteArray) (n : Int) (s : Value) (w : World) : (ReflectliteValue.unpack (.iface 103 (.agg #[.string op, .int .i64 n, s]))).run Tryd.prog w
    = .ok (.agg #[.pointer (some ⟨11, 103, none⟩), .pointer (some ⟨w.heap.size, 0, none⟩), .int .u64 153]) (w.alloc (.cells #[.string op, .int .i64 n, s] 103)) := by kernel_rfl
theorem As.elemOfP (w : World) : (Rtype.elem? 107).run Tryd.prog w = .ok (some 103) w := by kernel_rfl
theorem As.mkF (p : Addr) (w : World) : (ReflectliteValue.mk 103 p ReflectliteValue.flagAddr).run Tryd.prog w = .ok (.agg #[.pointer (some ⟨11, 103, none⟩), .pointer (some p), .int .u64 409]) w := by kernel_rfl
theorem As.elemVP (a p : Addr) (W : World) (ha : W.cell? a = some (.pointer (some p))) :
    (ReflectliteValue.method (ReflectliteValue.valueError "reflectlite.Value.Elem" 0) ReflectliteValue.elem #[.agg #[.pointer (some ⟨11, 107, none⟩), .pointer (some a), .int .u64 150]]).run Tryd.prog W
      = .ok (.agg #[.pointer (some ⟨11, 103, none⟩), .pointer (some p), .int .u64 409]) W := by
  rw [As.rlm]
  simp only [Sem.run_bind, As.partsP, Result.andThen]
  simp [ReflectliteValue.elem, loadVar, isAgg, underlying, Tryd.underlying107, ha, Result.andThen, As.elemOfP, As.mkF]
theorem As.partsFa (a : Addr) (w : World) : (ReflectliteValue.parts (.agg #[.pointer (some ⟨11, 103, none⟩), .pointer (some a), .int .u64 409])).run Tryd.prog w = .ok (some (103, a, 409)) w := by kernel_rfl
theorem As.partsF (a : Addr) (w : World) : (ReflectliteValue.parts (.agg #[.pointer (some ⟨11, 103, none⟩), .pointer (some a), .int .u64 153])).run Tryd.prog w = .ok (some (103, a, 153)) w := by kernel_rfl
theorem As.directF (w : World) : (Rtype.directlyAssignable 103 103).run Tryd.prog w = .ok true w := by kernel_rfl
theorem As.sizeF : (Tryd.prog.info? 103).map (·.size) = some 3 := by kernel_rfl

theorem As.rls (v x : Value) : ReflectliteValue.set #[v, x] = (do
    let (some (dst, a, fl), some (src, b, _)) := (← ReflectliteValue.parts v, ← ReflectliteValue.parts x)
      | unsupported (.noEntry "extern/(internal/reflectlite.Value).Set.zeroValue")
    if fl / ReflectliteValue.flagAddr % 2 == 0 then unsupported (.noEntry "extern/(internal/reflectlite.Value).Set.unaddressable")
    let val ← loadVar src b
    if ← Rtype.directlyAssignable dst src then storeVar dst a val
    else if ← Rtype.implements dst src then
      if (← Rtype.kind src) == 20 then
        match val with
        | .nilIface => unsupported (.noEntry "extern/reflectlite: a nil value of one interface type handed on as a value of another")
        | _ => storeVar dst a val
      else storeVar dst a (.iface src val)
    else panicString ("reflectlite.Set: value of type " ++ (← Rtype.spelt src) ++ " is not assignable to type " ++ (← Rtype.spelt dst))
    pure (.tuple #[])) := rfl

theorem As.setF (ta b : Nat) (op : ByteArray) (n : Int) (s o0 o1 o2 : Value) (W : World) (hs : s.oneCell' = true) (hb : Blk W b 103 [.string op, .int .i64 n, s]) (ht : Blk W ta 103 [o0, o1, o2]) :
    (ReflectliteValue.set #[.agg #[.pointer (some ⟨11, 103, none⟩), .pointer (some ⟨ta, 0, none⟩), .int .u64 409], .agg #[.pointer (some ⟨11, 103, none⟩), .pointer (some ⟨b, 0, none⟩), .int .u64 153]]).run Tryd.prog W
      = .ok (.tuple #[]) (W.setRow ta #[.string op, .int .i64 n, s]) := by
  have h1 : (loadVar 103 ⟨b, 0, none⟩).run Tryd.prog W = .ok (.agg #[.string op, .int .i64 n, s]) W :=
    run_loadVar_row W b 103 103 #[.string op, .int .i64 n, s] (0, 0) _ hb Tryd.underlying103 rfl As.sizeF
  have h2 : (storeVar 103 ⟨ta, 0, none⟩ (.agg #[.string op, .int .i64 n, s])).run Tryd.prog W = .ok () (W.setRow ta #[.string op, .int .i64 n, s]) :=
    run_storeVar_row W ta 103 103 #[o0, o1, o2] #[.string op, .int .i64 n, s] ht As.sizeF rfl (by simp [Value.oneCell'] at hs ⊢; exact hs)
  rw [As.rls]
  simp only [Sem.run_bind, As.partsFa, As.partsF, Result.andThen]
  simp [ReflectliteValue.flagAddr, h1, h2, Result.andThen, As.directF]

abbrev asO1 (t : Nat) : Obj := .cells #[.pointer (some ⟨t, 0, none⟩)] 107
abbrev asO2 (k : Nat) : Obj := .cells #[.pointer (some ⟨11, 107, none⟩), .pointer (some ⟨k, 0, none⟩), .int .u64 150] 130
abbrev asO3 (op : ByteArray) (n : Int) (s : Value) : Obj := .cells #[.string op, .int .i64 n, s] 103
abbrev asW (op : ByteArray) (n : Int) (s : Value) (t : Nat) (w : World) : World := (((w.alloc (asO1 t)).alloc (asO2 w.heap.size)).alloc (asO2 w.heap.size)).alloc (asO3 op n s)

set_option maxHeartbeats 4000000 in
set_option maxRecDepth 20000 in
theorem as_fault (op : ByteArray) (n : Int) (s : Value) (t : Nat) (o0 o1 o2 : Value) (w : World) (hs : s.oneCell' = true)
    (hg : w.cell? ⟨10, 0, none⟩ = some (.iface 144 (.agg #[.pointer (some ⟨11, 25, none⟩)]))) (ht : Blk w t 103 [o0, o1, o2]) :
    Calls Tryd.prog 48 #[errV op n s, .iface 107 (.pointer (some ⟨t, 0, none⟩))] w fun ev w' => ev = .returned (.bool true) ∧ w' = (asW op n s t w).setRow t #[.string op, .int .i64 n, s] := by
  unfold errV
  have x1 := @run_callFunc_extern Tryd.prog 67 _ (fun args => ReflectliteValue.unpack (args.getD 0 (.tuple #[]))) Tryd.func67 (by kernel_rfl) (by kernel_rfl) (by kernel_rfl) (by kernel_rfl)
  have x2 := @run_callFunc_extern Tryd.prog 68 _ (ReflectliteValue.methodAny (ReflectliteValue.valueError "reflectlite.Value.Type" 0) (fun t _ _ _ => ReflectliteType.toType t)) Tryd.func68 (by kernel_rfl) (by kernel_rfl) (by kernel_rfl) (by kernel_rfl)
  have x3 := @run_callFunc_extern Tryd.prog 69 _ (ReflectliteValue.method (ReflectliteValue.valueError "reflectlite.Value.IsNil" 0) ReflectliteValue.isNil) Tryd.func69 (by kernel_rfl) (by kernel_rfl) (by kernel_rfl) (by kernel_rfl)
  have x4 := @run_callFunc_extern Tryd.prog 99 _ (ReflectliteType.abiMethod fun t => do pure (.int .u8 (← Rtype.kind t))) Tryd.func99 (by kernel_rfl) (by kernel_rfl) (by kernel_rfl) (by kernel_rfl)
  have x5 := @run_callFunc_extern Tryd.prog 110 _ (ReflectliteType.method ReflectliteType.elem) Tryd.func110 (by kernel_rfl) (by kernel_rfl) (by kernel_rfl) (by kernel_rfl)
  have x6 := @run_callFunc_extern Tryd.prog 111 _ (ReflectliteType.relation "Implements" ReflectliteType.implements_) Tryd.func111 (by kernel_rfl) (by kernel_rfl) (by kernel_rfl) (by kernel_rfl)
  have x7 := @run_callFunc_extern Tryd.prog 65 _ (ReflectliteType.typeOf) Tryd.func65 (by kernel_rfl) (by kernel_rfl) (by kernel_rfl) (by kernel_rfl)
  have x8 := @run_callFunc_extern Tryd.prog 108 _ (ReflectliteType.relation "AssignableTo" ReflectliteType.assignableTo) Tryd.func108 (by kernel_rfl) (by kernel_rfl) (by kernel_rfl) (by kernel_rfl)
  have x9 := @run_callFunc_extern Tryd.prog 79 _ (ReflectliteValue.method (ReflectliteValue.valueError "reflectlite.Value.Elem" 0) ReflectliteValue.elem) Tryd.func79 (by kernel_rfl) (by kernel_rfl) (by kernel_rfl) (by kernel_rfl)
  have x10 := @run_callFunc_extern Tryd.prog 80 _ (ReflectliteValue.set) Tryd.func80 (by kernel_rfl) (by kernel_rfl) (by kernel_rfl) (by kernel_rfl)
  have tO := As.typeOfF
  have mA := As.methodAssignableTo
  have aF := As.assignableF
  have vF := As.valueOfF
  have vP := As.valueOfP
  have tP := As.typeP
  have mK := As.methodKind
  have mE := As.methodElem
  have mI := As.methodImplements
  have kP := As.kindP
  have kF := As.kindF
  have eP := As.elemP
  have iF := As.implementsF
  have htl := ht.lt
  have n8 := As.isNilP ⟨w.heap.size, 0, none⟩ ⟨t, 0, none⟩ ((w.alloc (asO1 t)).alloc (asO2 w.heap.size)) (by simp)
  have hgl := block_lt_of_cell hg
  have hg2 : ((w.alloc (asO1 t)).alloc (asO2 w.heap.size)).cell? ⟨10, 0, none⟩ = some (.iface 144 (.agg #[.pointer (some ⟨11, 25, none⟩)])) := by
    rw [World.cell?_alloc_lt _ _ ⟨10, 0, none⟩ (by simp; exact Nat.lt_succ_of_lt hgl), World.cell?_alloc_lt _ _ ⟨10, 0, none⟩ hgl]; exact hg
  have el := As.elemVP ⟨w.heap.size, 0, none⟩ ⟨t, 0, none⟩ (((w.alloc (asO1 t)).alloc (asO2 w.heap.size)).alloc (asO2 w.heap.size)) (by rw [World.cell?_alloc_lt _ _ ⟨w.heap.size, 0, none⟩ (by simp; omega)]; simp)
  have st := As.setF t (w.heap.size + 1 + 1 + 1) op n s o0 o1 o2 (asW op n s t w) hs
    (by have := Blk.new (((w.alloc (asO1 t)).alloc (asO2 w.heap.size)).alloc (asO2 w.heap.size)) #[.string op, .int .i64 n, s] 103; simpa using this)
    ((((ht.alloc _).alloc _).alloc _).alloc _)
  clear ht
  go_enter Tryd.func48, Tryd.ntmps48
  go_wp2
  refine wp_loop_rounds 1 ?_
  rw [rounds_succ]
  go_wp2
  go_ret
  exact ⟨rfl, rfl⟩
end Go.Proofs.YtjmlficbnljiaaaDoor
