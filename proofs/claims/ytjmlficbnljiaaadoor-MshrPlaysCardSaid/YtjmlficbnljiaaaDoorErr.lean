/- errors.Is, by its text, for the errors of this program: a Fault over a sentinel; and what assentkeep makes of it. -/
import Derived.Test.YtjmlficbnljiaaaDoorBase
import Derived.LaidEql
import Derived.Stop.Asserts
import Derived.RowKitTokens
namespace Go.Proofs.YtjmlficbnljiaaaDoor
open Go.RowKit Go.Extern.Stop Go.Stop Go.Extern

theorem Er.isTypeOf (v : Value) (w : World) : (Extern.ReflectliteType.typeOf #[.iface 161 v]).run Tryd.prog w = .ok (.iface 144 (.agg #[.pointer (some ⟨11, 161, none⟩)])) w := by kernel_rfl
/-- The model's entry for (rtype).Comparable, under one name. -/
def compEntry : Array Value → Sem Value := Extern.ReflectliteType.method fun t => do Extern.Rtype.noPackHeld "Comparable" t; pure (.bool (← typeInfo t).comparable)
theorem Er.isComparable (w : World) : (compEntry #[.agg #[.pointer (some ⟨11, 161, none⟩)]]).run Tryd.prog w = .ok (.bool true) w := by kernel_rfl
theorem Er.isMethodComparable (v : Value) (w : World) : (Go.method 293 144 v "Comparable").run Tryd.prog w = .ok (109, v) w := by kernel_rfl
theorem Er.isComp : (Tryd.prog.info? 161).map (·.comparable) = some true := by kernel_rfl
theorem Er.isSize : (Tryd.prog.info? 181).map (·.size) = some 1 := by kernel_rfl
theorem Er.noIsE (v : Value) (xT : TypeId) (w : World) : (Instr.typeAssert (.iface 161 v) xT 146 true).run Tryd.prog w = .ok (.tuple #[.nilIface, .bool false]) w := run_typeAssert_lacksB Tryd.underlying146 (by kernel_rfl) (by kernel_rfl) v xT w
theorem Er.noUnwrapE (v : Value) (xT : TypeId) (w : World) : (Instr.typeAssert (.iface 161 v) xT 149 true).run Tryd.prog w = .ok (.tuple #[.nilIface, .bool false]) w := run_typeAssert_lacksB Tryd.underlying149 (by kernel_rfl) (by kernel_rfl) v xT w
theorem Er.noUnwrapsE (v : Value) (xT : TypeId) (w : World) : (Instr.typeAssert (.iface 161 v) xT 151 true).run Tryd.prog w = .ok (.tuple #[.nilIface, .bool false]) w := run_typeAssert_lacksB Tryd.underlying151 (by kernel_rfl) (by kernel_rfl) v xT w
theorem Er.noIsF (v : Value) (xT : TypeId) (w : World) : (Instr.typeAssert (.iface 103 v) xT 146 true).run Tryd.prog w = .ok (.tuple #[.nilIface, .bool false]) w := run_typeAssert_lacksB Tryd.underlying146 (by kernel_rfl) (by kernel_rfl) v xT w
theorem Er.hasUnwrapF (v : Value) (xT : TypeId) (w : World) : (Instr.typeAssert (.iface 103 v) xT 149 true).run Tryd.prog w = .ok (.tuple #[.iface 103 v, .bool true]) w := run_typeAssert_hasB Tryd.underlying149 (by kernel_rfl) v xT w
theorem Er.methodUnwrap (v : Value) (w : World) : (Go.method 293 103 v "Unwrap").run Tryd.prog w = .ok (103, v) w := by kernel_rfl

set_option maxHeartbeats 400000 in
theorem unwrap_any (op : ByteArray) (at_ : Int) (s : Value) (w : World) :
    Calls Tryd.prog 103 #[.agg #[.string op, .int .i64 at_, s]] w fun e w' => e = .returned s ∧ Below w.heap.size w w' := by
  go_enter Tryd.func103, Tryd.ntmps103
  go_wp2
  go_ret
  exact ⟨rfl, (Below.refl _ _).alloc (Nat.le_refl _) _⟩

/-- A sentinel: a pointer to an errors.errorString. -/
abbrev sentV (p : Addr) : Value := .iface 161 (.pointer (some p))

/-- errors.Is(nil, x). -/
theorem is_nil (b : Addr) (w : World) :
    Calls Tryd.prog 46 #[.nilIface, sentV b] w fun e w' => e = .returned (.bool false) ∧ w = w' := by
  have hn := run_eql_iface_nil_left (P := Tryd.prog) w 161 (.pointer (some b)) Tryd.underlying25
  go_enter Tryd.func46, Tryd.ntmps46
  go_wp2
  go_ret
  exact ⟨rfl, rfl⟩

set_option maxHeartbeats 1000000 in
set_option maxRecDepth 10000 in
theorem isl_fault_same (op : ByteArray) (at_ : Int) (b : Addr) (w : World) :
    Calls Tryd.prog 66 #[errV op at_ (sentV b), sentV b, .bool true] w fun e w' => e = .returned (.bool true) ∧ Below w.heap.size w w' := by
  unfold errV
  obtain ⟨i, hi, hcmp⟩ := Option.map_eq_some_iff.1 Er.isComp
  obtain ⟨j, hj, hjs⟩ := Option.map_eq_some_iff.1 Er.isSize
  have h8 := @run_callFunc_extern Tryd.prog 65 _ Extern.ReflectliteType.typeOf Tryd.func65 (by kernel_rfl) (by kernel_rfl) (by kernel_rfl) (by kernel_rfl)
  have h32 := @run_callFunc_extern Tryd.prog 109 _ compEntry Tryd.func109 (by kernel_rfl) (by kernel_rfl) (by kernel_rfl) (by kernel_rfl)
  have tT := Er.isTypeOf
  have cT := Er.isComparable
  have mR := Er.isMethodComparable
  have nE := Er.noIsE
  have uE := Er.noUnwrapE
  have vE := Er.noUnwrapsE
  have nW := Er.noIsF
  have uW := Er.hasUnwrapF
  have mU := Er.methodUnwrap
  have heq := fun w => run_eql_iface_ptr_same (P := Tryd.prog) w b Tryd.underlying25 Tryd.underlying161 hi hcmp hj
  have hty := run_eql_iface_types (P := Tryd.prog) 103 161 (.agg #[.string op, .int .i64 at_, sentV b]) (.pointer (some b)) Tryd.underlying25 (by decide) w
  go_enter Tryd.func66, Tryd.ntmps66
  go_wp2_with fail
  refine wp_loop_rounds 2 ?_
  rw [rounds_succ]
  go_wp2_with fail
  refine (unwrap_any _ _ _ _).mono ?_; rintro r w1 ⟨rfl, hB⟩
  go_wp2_with fail
  rw [rounds_succ]
  go_wp2_with fail
  go_ret
  exact ⟨rfl, hB⟩

set_option maxHeartbeats 1000000 in
set_option maxRecDepth 10000 in
theorem is_fault_same (op : ByteArray) (at_ : Int) (b : Addr) (w : World) :
    Calls Tryd.prog 46 #[errV op at_ (sentV b), sentV b] w fun e w' => e = .returned (.bool true) ∧ Below w.heap.size w w' := by
  have HI := Lib.hid (isl_fault_same op at_ b w)
  unfold errV
  have h8 := @run_callFunc_extern Tryd.prog 65 _ Extern.ReflectliteType.typeOf Tryd.func65 (by kernel_rfl) (by kernel_rfl) (by kernel_rfl) (by kernel_rfl)
  have h32 := @run_callFunc_extern Tryd.prog 109 _ compEntry Tryd.func109 (by kernel_rfl) (by kernel_rfl) (by kernel_rfl) (by kernel_rfl)
  have tT := Er.isTypeOf
  have cT := Er.isComparable
  have mR := Er.isMethodComparable
  go_enter Tryd.func46, Tryd.ntmps46
  go_wp2_with fail
  refine HI.out.mono ?_; rintro r w1 ⟨rfl, hB⟩
  go_wp2_with fail
  go_ret
  exact ⟨rfl, hB⟩

set_option maxHeartbeats 1000000 in
set_option maxRecDepth 10000 in
theorem isl_fault_other (op : ByteArray) (at_ : Int) (a b : Addr) (ca cb : Array Value) (ta tb : TypeId) (w : World) (hne : a ≠ b) (ha : w.heap[a.block]? = some (.cells ca ta (0, 0))) (hb : w.heap[b.block]? = some (.cells cb tb (0, 0))) :
    Calls Tryd.prog 66 #[errV op at_ (sentV a), sentV b, .bool true] w fun e w' => e = .returned (.bool false) ∧ Below w.heap.size w w' := by
  unfold errV
  obtain ⟨i, hi, hcmp⟩ := Option.map_eq_some_iff.1 Er.isComp
  obtain ⟨j, hj, hjs⟩ := Option.map_eq_some_iff.1 Er.isSize
  have h8 := @run_callFunc_extern Tryd.prog 65 _ Extern.ReflectliteType.typeOf Tryd.func65 (by kernel_rfl) (by kernel_rfl) (by kernel_rfl) (by kernel_rfl)
  have h32 := @run_callFunc_extern Tryd.prog 109 _ compEntry Tryd.func109 (by kernel_rfl) (by kernel_rfl) (by kernel_rfl) (by kernel_rfl)
  have tT := Er.isTypeOf
  have cT := Er.isComparable
  have mR := Er.isMethodComparable
  have nE := Er.noIsE
  have uE := Er.noUnwrapE
  have vE := Er.noUnwrapsE
  have nW := Er.noIsF
  have uW := Er.hasUnwrapF
  have mU := Er.methodUnwrap
  have HA := Lib.hid ha
  have HB := Lib.hid hb
  have hty := run_eql_iface_types (P := Tryd.prog) 103 161 (.agg #[.string op, .int .i64 at_, sentV a]) (.pointer (some b)) Tryd.underlying25 (by decide) w
  clear ha hb
  go_enter Tryd.func66, Tryd.ntmps66
  go_wp2_with fail
  refine wp_loop_rounds 2 ?_
  rw [rounds_succ]
  go_wp2_with fail
  refine (unwrap_any _ _ _ _).mono ?_; rintro r w1 ⟨rfl, hB⟩
  have heq := run_eql_iface_ptr_other (P := Tryd.prog) (a := a) (b := b) w1 Tryd.underlying25 Tryd.underlying161 hi hcmp hj (by rw [hjs]; decide) hne
    ((hB.block a.block (lt_of_block HA.out)).trans HA.out) ((hB.block b.block (lt_of_block HB.out)).trans HB.out)
  go_wp2_with fail
  rw [rounds_succ]
  go_wp2_with fail
  go_ret
  exact ⟨rfl, hB⟩

set_option maxHeartbeats 1000000 in
set_option maxRecDepth 10000 in
theorem is_fault_other (op : ByteArray) (at_ : Int) (a b : Addr) (ca cb : Array Value) (ta tb : TypeId) (w : World) (hne : a ≠ b) (ha : w.heap[a.block]? = some (.cells ca ta (0, 0))) (hb : w.heap[b.block]? = some (.cells cb tb (0, 0))) :
    Calls Tryd.prog 46 #[errV op at_ (sentV a), sentV b] w fun e w' => e = .returned (.bool false) ∧ Below w.heap.size w w' := by
  have HI := Lib.hid (isl_fault_other op at_ a b ca cb ta tb w hne ha hb)
  clear ha hb
  unfold errV
  have h8 := @run_callFunc_extern Tryd.prog 65 _ Extern.ReflectliteType.typeOf Tryd.func65 (by kernel_rfl) (by kernel_rfl) (by kernel_rfl) (by kernel_rfl)
  have h32 := @run_callFunc_extern Tryd.prog 109 _ compEntry Tryd.func109 (by kernel_rfl) (by kernel_rfl) (by kernel_rfl) (by kernel_rfl)
  have tT := Er.isTypeOf
  have cT := Er.isComparable
  have mR := Er.isMethodComparable
  go_enter Tryd.func46, Tryd.ntmps46
  go_wp2_with fail
  refine HI.out.mono ?_; rintro r w1 ⟨rfl, hB⟩
  go_wp2_with fail
  go_ret
  exact ⟨rfl, hB⟩
end Go.Proofs.YtjmlficbnljiaaaDoor
