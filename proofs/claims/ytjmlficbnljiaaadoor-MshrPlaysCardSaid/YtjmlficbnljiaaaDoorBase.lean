/- Small functions of numbers alone: what each answers. -/
import Derived.Test.YtjmlficbnljiaaaDoorProg
import Derived.Test.YtjmlficbnljiaaaDoorMem
import Derived.WalkSpells
import Derived.WalkLawsBesides
import Derived.Deep.QuietTactic
import Derived.BigQuiet
import Derived.KernelRfl
import Derived.Handy
namespace Go.Proofs.YtjmlficbnljiaaaDoor
open Go.RowKit

def isPow (n : Int) : Bool := decide (1 ≤ n) && (decide (n ≤ 8) && (Go.bits .and .i64 n (n - 1) == 0))

set_option maxHeartbeats 400000 in
theorem geom_within (n lo hi : Int) (w : World) :
    Calls Tryd.prog 82 #[.int .i64 n, .int .i64 lo, .int .i64 hi] w fun e w' => e = .returned (.bool (decide (lo ≤ n) && decide (n ≤ hi))) ∧ w = w' := by
  go_enter Tryd.func82, Tryd.ntmps82
  go_wp2
  all_goals (go_ret; exact ⟨by simp [*]; try omega, rfl⟩)

set_option maxHeartbeats 400000 in
theorem geom_power (n : Int) (w : World) :
    Calls Tryd.prog 83 #[.int .i64 n, .int .i64 8] w fun e w' => e = .returned (.bool (isPow n)) ∧ w = w' := by
  go_enter Tryd.func83, Tryd.ntmps83
  go_wp2
  all_goals (go_ret; exact ⟨by simp [isPow, *]; try omega, rfl⟩)

set_option maxHeartbeats 400000 in
theorem array_power (n : Int) (w : World) :
    Calls Tryd.prog 39 #[.int .i64 n, .int .i64 8] w fun e w' => e = .returned (.bool (isPow n)) ∧ w = w' := by
  go_enter Tryd.func39, Tryd.ntmps39
  go_wp2
  all_goals (go_ret; exact ⟨by simp [isPow, *]; try omega, rfl⟩)

set_option maxHeartbeats 400000 in
theorem plru_right (n : Int) (w : World) :
    Calls Tryd.prog 64 #[.int .i64 n] w fun e w' => e = .returned (.bool (isPow n)) ∧ w = w' := by
  go_enter Tryd.func64, Tryd.ntmps64
  go_wp2
  all_goals (go_ret; exact ⟨by simp [isPow, *]; try omega, rfl⟩)

/-- A line's set, of so many. -/
def setIx (line sets : Int) : Int := if 0 ≤ line ∧ line ≤ 31 then line % sets else -1
theorem isPow_cases {n : Int} (h : n = 1 ∨ n = 2 ∨ n = 4 ∨ n = 8) : isPow n = true := by
  rcases h with rfl | rfl | rfl | rfl <;> decide +kernel

set_option maxHeartbeats 400000 in
theorem geom_Set (line sets : Int) (w : World) (hs : isPow sets = true) (h0 : 1 ≤ sets) :
    Calls Tryd.prog 78 #[.int .i64 line, .int .i64 sets] w fun e w' => e = .returned (.int .i64 (setIx line sets)) ∧ w = w' := by
  have HS := Lib.hid hs; clear hs
  have hne : ((sets : Int) == 0) = false := by simp; omega
  have hne2 : ¬ sets = 0 := by omega
  go_enter Tryd.func78, Tryd.ntmps78
  by_cases hl : 0 ≤ line ∧ line ≤ 31
  · have hl1 := hl.1
    have hl2 := hl.2
    have HL := Lib.hid hl; clear hl
    go_wp2_with fail
    refine (geom_within _ _ _ _).mono ?_; rintro e w' ⟨rfl, rfl⟩
    go_wp2_with fail
    refine (geom_power _ _).mono ?_; rintro e w' ⟨rfl, rfl⟩
    have hs := HS.out
    go_wp2_with fail
    go_ret
    exact ⟨by simp [setIx, HL.out], rfl⟩
  · have hb : (decide (0 ≤ line) && decide (line ≤ 31)) = false := by simp; omega
    have HL := Lib.hid hl; clear hl
    go_wp2_with fail
    refine (geom_within _ _ _ _).mono ?_; rintro e w' ⟨rfl, rfl⟩
    go_wp2_with fail
    go_ret
    exact ⟨by simp [setIx, HL.out], rfl⟩

/-- An error: where it came to be, over a sentinel. -/
abbrev errV (op : ByteArray) (at_ : Int) (s : Value) : Value := .iface 103 (.agg #[.string op, .int .i64 at_, s])

set_option maxHeartbeats 400000 in
theorem fault_Wrap (op : ByteArray) (at_ : Int) (t : TypeId) (v : Value) (w : World) :
    Calls Tryd.prog 40 #[.string op, .int .i64 at_, .iface t v] w fun e w' => e = .returned (errV op at_ (.iface t v)) ∧ w = w' := by
  go_enter Tryd.func40, Tryd.ntmps40
  go_wp2
  go_ret
  exact ⟨rfl, rfl⟩

set_option maxHeartbeats 400000 in
theorem fault_Wrap_nil (op : ByteArray) (at_ : Int) (w : World) :
    Calls Tryd.prog 40 #[.string op, .int .i64 at_, .nilIface] w fun e w' => e = .returned .nilIface ∧ w = w' := by
  go_enter Tryd.func40, Tryd.ntmps40
  go_wp2
  go_ret
  exact ⟨rfl, rfl⟩

/-- A number brought into lo .. hi. -/
def within (n lo hi : Int) : Int := lo + n % (hi - lo + 1)
theorem within_ge (n lo hi : Int) (h : lo ≤ hi) : lo ≤ within n lo hi := by
  have := Int.emod_nonneg n (b := hi - lo + 1) (by omega); unfold within; omega
theorem within_le (n lo hi : Int) (h : lo ≤ hi) : within n lo hi ≤ hi := by
  have := Int.emod_lt_of_pos n (b := hi - lo + 1) (by omega); unfold within; omega
theorem tmod_within (n m : Int) (hm : 0 < m) : (if n.tmod m < 0 then n.tmod m + m else n.tmod m) = n % m := by
  have h1 := Int.emod_nonneg n (b := m) (by omega)
  have h2 := Int.emod_lt_of_pos n hm
  have h3 := Int.tmod_eq_emod (a := n) (b := m)
  split at h3
  · rw [if_neg (by omega)]; omega
  · rw [if_pos (by omega)]; omega

set_option maxHeartbeats 400000 in
theorem book_Within (n lo hi : Int) (w : World) (h1 : -1000 ≤ lo) (h2 : lo ≤ hi) (h3 : hi ≤ 1000) :
    Calls Tryd.prog 7 #[.int .i64 n, .int .i64 lo, .int .i64 hi] w fun e w' => e = .returned (.int .i64 (within n lo hi)) ∧ w = w' := by
  have hz : ((hi - lo + 1 : Int) == 0) = false := by simp; omega
  have hz2 : ¬ (hi - lo + 1 : Int) = 0 := by omega
  have e := tmod_within n (hi - lo + 1) (by omega)
  have b1 := Int.emod_nonneg n (b := hi - lo + 1) (by omega)
  have b2 := Int.emod_lt_of_pos n (b := hi - lo + 1) (by omega)
  by_cases hn : n.tmod (hi - lo + 1) < 0
  · rw [if_pos hn] at e
    have e' : n.tmod (hi - lo + 1) = n % (hi - lo + 1) - (hi - lo + 1) := by omega
    have b3 : -3000 ≤ n.tmod (hi - lo + 1) := by omega
    have E := Lib.hid e; clear e
    have E' := Lib.hid e'; clear e'
    clear b1 b2
    go_enter Tryd.func7, Tryd.ntmps7
    go_wp2
    go_ret
    refine ⟨?_, rfl⟩
    have := E'.out
    unfold within
    simp
    omega
  · rw [if_neg hn] at e
    have e' : n.tmod (hi - lo + 1) = n % (hi - lo + 1) := by omega
    have b3 : n.tmod (hi - lo + 1) ≤ 3000 := by omega
    have E := Lib.hid e; clear e
    have E' := Lib.hid e'; clear e'
    clear b1 b2
    go_enter Tryd.func7, Tryd.ntmps7
    go_wp2
    go_ret
    refine ⟨?_, rfl⟩
    have := E'.out
    unfold within
    simp
    omega
end Go.Proofs.YtjmlficbnljiaaaDoor
