/- The array's New where it refuses; plain; Same over the document's entries. -/
import Derived.Test.YtjmlficbnljiaaaDoorRefN
import Derived.Test.YtjmlficbnljiaaaDoorEq
namespace Go.Proofs.YtjmlficbnljiaaaDoor
open Go.RowKit

abbrev opNew : ByteArray := { data := #[97, 114, 114, 97, 121, 46, 78, 101, 119] }

set_option maxHeartbeats 800000 in
theorem New_bad0 (n k : Int) (hn : isPow n = false) (w : World) (tA : TypeId) (vA : Value) (hG : w.cell? ⟨0, 0, none⟩ = some (.iface tA vA)) :
    Calls Tryd.prog 6 #[.int .i64 n, .int .i64 k] w fun e w' => e = .returned (.tuple #[.pointer none, errV opNew 0 (.iface tA vA)]) ∧ w = w' := by
  have HN := Lib.hid hn; clear hn
  go_enter Tryd.func6, Tryd.ntmps6
  go_wp2_with fail
  refine (array_power _ _).mono ?_; rintro e w' ⟨rfl, rfl⟩
  rw [HN.out]
  go_wp2_with fail
  refine (fault_Wrap _ _ _ _ _).mono ?_; rintro r w2 ⟨rfl, rfl⟩
  go_wp2_with fail
  go_ret2
  exact ⟨rfl, rfl⟩
set_option maxHeartbeats 800000 in
theorem New_bad1 (n k : Int) (hn : isPow n = true) (hk : isPow k = false) (w : World) (tA : TypeId) (vA : Value) (hG : w.cell? ⟨0, 0, none⟩ = some (.iface tA vA)) :
    Calls Tryd.prog 6 #[.int .i64 n, .int .i64 k] w fun e w' => e = .returned (.tuple #[.pointer none, errV opNew 1 (.iface tA vA)]) ∧ w = w' := by
  have HN := Lib.hid hn; clear hn
  have HK := Lib.hid hk; clear hk
  go_enter Tryd.func6, Tryd.ntmps6
  go_wp2_with fail
  refine (array_power _ _).mono ?_; rintro e w' ⟨rfl, rfl⟩
  rw [HN.out]
  go_wp2_with fail
  refine (array_power _ _).mono ?_; rintro e w' ⟨rfl, rfl⟩
  rw [HK.out]
  go_wp2_with fail
  refine (fault_Wrap _ _ _ _ _).mono ?_; rintro r w2 ⟨rfl, rfl⟩
  go_wp2_with fail
  go_ret2
  exact ⟨rfl, rfl⟩

set_option maxHeartbeats 800000 in
set_option maxRecDepth 10000 in
theorem plain_any (e : Ent) (w : World) :
    Calls Tryd.prog 16 #[e.val] w fun r w' => r = .returned e.val ∧ Below w.heap.size w w' := by
  unfold Ent.val
  go_enter Tryd.func16, Tryd.ntmps16
  go_wp2_with fail
  refine bodyPost_ret (v := e.val) (by simp [results, Tryd.results16, go_sem, *, Ent.val]) rfl ⟨rfl, ?_⟩
  exact ((Below.refl _ _).alloc (Nat.le_refl _) _).alloc (by simp) _
end Go.Proofs.YtjmlficbnljiaaaDoor
