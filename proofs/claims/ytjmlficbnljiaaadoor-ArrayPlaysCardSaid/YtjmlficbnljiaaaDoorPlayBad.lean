/- The walk of assentlaw6.ArrayPlays where no array can be made: both refuse alike. -/
import Derived.Test.YtjmlficbnljiaaaDoorPlayMem
import Derived.Test.YtjmlficbnljiaaaDoorRuns6
namespace Go.Proofs.YtjmlficbnljiaaaDoor
open Go.RowKit

set_option maxHeartbeats 3200000 in
set_option maxRecDepth 20000 in
theorem plays_bad0 (w : World) (p : Nat → Addr) (HG : Hid (Glob w p)) (sets ways : Int) (hn : isPow sets = false) (a : Option Addr) (c : Nat) (l : List AskM) (hll : l.length ≤ 140737488351232)
    (hArg : w.cell? ⟨0, 0, none⟩ = some (sentV (p 1))) :
    Calls Tryd.prog 4 #[.int .i64 sets, .int .i64 ways, .slice a l.length c] w fun e w' => e = .returned (.bool true) ∧ Below w.heap.size w w' := by
  have HNew := Lib.hid (New_bad0 sets ways hn w _ _ hArg)
  have HRef := Lib.hid (fun W => NewArray_bad0 sets ways hn W)
  have HIs := Lib.hid (keep_Is opNew 0 1 (by omega) w p HG.out)
  clear hn hArg
  go_enter Tryd.func4, Tryd.ntmps4
  go_wp2_with fail
  refine HNew.out.mono ?_; rintro r w1 ⟨rfl, rfl⟩
  go_wp2_with fail
  refine (HRef.out _).mono ?_; rintro r w1 ⟨rfl, rfl⟩
  go_wp2_with fail
  refine (by simpa [codeErr] using HIs.out : Calls Tryd.prog 14 #[errV opNew 0 (sentV (p 1)), .int .i64 1, .string opNew, .int .i64 0] w fun e w' => e = .returned (.bool true) ∧ Below w.heap.size w w').mono ?_; rintro r w2 ⟨rfl, hB2⟩
  have HB2 := Lib.hid hB2
  clear hB2
  by_cases hpos : 0 < l.length
  · go_wp2_with fail
    refine wp_loop_rounds 1 ?_
    rw [rounds_succ]
    go_wp2_with fail
    refine (array_runs _ p (HG.out.below HB2.out (Nat.le_refl _))).mono ?_; rintro r w3 ⟨rfl, hB3⟩
    go_wp2_with fail
    go_ret
    exact ⟨rfl, HB2.out.trans (hB3.mono HB2.out.size)⟩
  · have h0 : l.length = 0 := by omega
    rw [h0]
    go_wp2_with fail
    refine wp_loop_rounds 1 ?_
    rw [rounds_succ]
    go_wp2_with fail
    refine (array_runs _ p (HG.out.below HB2.out (Nat.le_refl _))).mono ?_; rintro r w3 ⟨rfl, hB3⟩
    go_wp2_with fail
    go_ret
    exact ⟨rfl, HB2.out.trans (hB3.mono HB2.out.size)⟩

set_option maxHeartbeats 3200000 in
set_option maxRecDepth 20000 in
theorem plays_bad1 (w : World) (p : Nat → Addr) (HG : Hid (Glob w p)) (sets ways : Int) (hn : isPow sets = true) (hk : isPow ways = false) (a : Option Addr) (c : Nat) (l : List AskM) (hll : l.length ≤ 140737488351232)
    (hArg : w.cell? ⟨0, 0, none⟩ = some (sentV (p 1))) :
    Calls Tryd.prog 4 #[.int .i64 sets, .int .i64 ways, .slice a l.length c] w fun e w' => e = .returned (.bool true) ∧ Below w.heap.size w w' := by
  have HNew := Lib.hid (New_bad1 sets ways hn hk w _ _ hArg)
  have HRef := Lib.hid (fun W => NewArray_bad1 sets ways hn hk W)
  have HIs := Lib.hid (keep_Is opNew 1 1 (by omega) w p HG.out)
  clear hn hk hArg
  go_enter Tryd.func4, Tryd.ntmps4
  go_wp2_with fail
  refine HNew.out.mono ?_; rintro r w1 ⟨rfl, rfl⟩
  go_wp2_with fail
  refine (HRef.out _).mono ?_; rintro r w1 ⟨rfl, rfl⟩
  go_wp2_with fail
  refine (by simpa [codeErr] using HIs.out : Calls Tryd.prog 14 #[errV opNew 1 (sentV (p 1)), .int .i64 1, .string opNew, .int .i64 1] w fun e w' => e = .returned (.bool true) ∧ Below w.heap.size w w').mono ?_; rintro r w2 ⟨rfl, hB2⟩
  have HB2 := Lib.hid hB2
  clear hB2
  by_cases hpos : 0 < l.length
  · go_wp2_with fail
    refine wp_loop_rounds 1 ?_
    rw [rounds_succ]
    go_wp2_with fail
    refine (array_runs _ p (HG.out.below HB2.out (Nat.le_refl _))).mono ?_; rintro r w3 ⟨rfl, hB3⟩
    go_wp2_with fail
    go_ret
    exact ⟨rfl, HB2.out.trans (hB3.mono HB2.out.size)⟩
  · have h0 : l.length = 0 := by omega
    rw [h0]
    go_wp2_with fail
    refine wp_loop_rounds 1 ?_
    rw [rounds_succ]
    go_wp2_with fail
    refine (array_runs _ p (HG.out.below HB2.out (Nat.le_refl _))).mono ?_; rintro r w3 ⟨rfl, hB3⟩
    go_wp2_with fail
    go_ret
    exact ⟨rfl, HB2.out.trans (hB3.mono HB2.out.size)⟩
end Go.Proofs.YtjmlficbnljiaaaDoor
