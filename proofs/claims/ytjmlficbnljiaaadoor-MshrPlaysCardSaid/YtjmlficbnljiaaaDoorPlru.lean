/- The tree of bits over the ways: Touch, Victim. -/
import Derived.Test.YtjmlficbnljiaaaDoorArrR
namespace Go.Proofs.YtjmlficbnljiaaaDoor
open Go.RowKit

def touchGo : Nat → Int → Int → Int → Int → Int
  | 0, _, _, bits, _ => bits
  | f + 1, half, node, bits, way =>
    if half ≤ 0 then bits
    else if (Go.bits .and .i64 way half == 0) = true then touchGo f (half / 2) (node * 2) (Go.bits .or .u8 bits (2 ^ (node - 1).toNat)) way
    else touchGo f (half / 2) (node * 2 + 1) (Go.bits .andNot .u8 bits (2 ^ (node - 1).toNat)) way
def touchM (bits ways way : Int) : Int := touchGo 4 (ways / 2) 1 bits way

set_option maxHeartbeats 1000000 in
set_option maxRecDepth 10000 in
theorem touch_8 (bits way : Int) (w : World) (h0 : 0 ≤ way) (h1 : way < 8) :
    Calls Tryd.prog 43 #[.int .u8 bits, .int .i64 8, .int .i64 way] w fun e w' => e = .returned (.int .u8 (touchM bits 8 way)) ∧ w = w' := by
  have HP := Lib.hid (isPow_cases (n := 8) (by simp))
  go_enter Tryd.func43, Tryd.ntmps43
  go_wp2_with fail
  refine (plru_right _ _).mono ?_; rintro e w' ⟨rfl, rfl⟩
  rw [HP.out]
  go_wp2_with fail
  go_rounds 4
  all_goals (go_ret; exact ⟨by simp [touchM, touchGo, *], rfl⟩)
set_option maxHeartbeats 1000000 in
set_option maxRecDepth 10000 in
theorem touch_4 (bits way : Int) (w : World) (h0 : 0 ≤ way) (h1 : way < 4) :
    Calls Tryd.prog 43 #[.int .u8 bits, .int .i64 4, .int .i64 way] w fun e w' => e = .returned (.int .u8 (touchM bits 4 way)) ∧ w = w' := by
  have HP := Lib.hid (isPow_cases (n := 4) (by simp))
  go_enter Tryd.func43, Tryd.ntmps43
  go_wp2_with fail
  refine (plru_right _ _).mono ?_; rintro e w' ⟨rfl, rfl⟩
  rw [HP.out]
  go_wp2_with fail
  go_rounds 3
  all_goals (go_ret; exact ⟨by simp [touchM, touchGo, *], rfl⟩)
set_option maxHeartbeats 1000000 in
set_option maxRecDepth 10000 in
theorem touch_2 (bits way : Int) (w : World) (h0 : 0 ≤ way) (h1 : way < 2) :
    Calls Tryd.prog 43 #[.int .u8 bits, .int .i64 2, .int .i64 way] w fun e w' => e = .returned (.int .u8 (touchM bits 2 way)) ∧ w = w' := by
  have HP := Lib.hid (isPow_cases (n := 2) (by simp))
  go_enter Tryd.func43, Tryd.ntmps43
  go_wp2_with fail
  refine (plru_right _ _).mono ?_; rintro e w' ⟨rfl, rfl⟩
  rw [HP.out]
  go_wp2_with fail
  go_rounds 2
  all_goals (go_ret; exact ⟨by simp [touchM, touchGo, *], rfl⟩)
set_option maxHeartbeats 1000000 in
set_option maxRecDepth 10000 in
theorem touch_1 (bits way : Int) (w : World) (h0 : 0 ≤ way) (h1 : way < 1) :
    Calls Tryd.prog 43 #[.int .u8 bits, .int .i64 1, .int .i64 way] w fun e w' => e = .returned (.int .u8 (touchM bits 1 way)) ∧ w = w' := by
  have HP := Lib.hid (isPow_cases (n := 1) (by simp))
  go_enter Tryd.func43, Tryd.ntmps43
  go_wp2_with fail
  refine (plru_right _ _).mono ?_; rintro e w' ⟨rfl, rfl⟩
  rw [HP.out]
  go_wp2_with fail
  go_rounds 1
  all_goals (go_ret; exact ⟨by simp [touchM, touchGo, *], rfl⟩)
theorem touch_any (bits way : Int) (n : Nat) (w : World) (hn : pow8 n) (h0 : 0 ≤ way) (h1 : way < n) :
    Calls Tryd.prog 43 #[.int .u8 bits, .int .i64 n, .int .i64 way] w fun e w' => e = .returned (.int .u8 (touchM bits n way)) ∧ w = w' := by
  rcases hn with rfl | rfl | rfl | rfl
  · exact touch_1 bits way w h0 h1
  · exact touch_2 bits way w h0 h1
  · exact touch_4 bits way w h0 h1
  · exact touch_8 bits way w h0 h1

theorem bit01 (b : Int) (h0 : 0 ≤ b) (h1 : b < 256) : Go.bits .and .u8 b 1 = 0 ∨ Go.bits .and .u8 b 1 = 1 := by
  have h : ∀ n : Fin 256, Go.bits .and .u8 (n.val : Int) 1 = 0 ∨ Go.bits .and .u8 (n.val : Int) 1 = 1 := by decide +kernel
  obtain ⟨m, rfl⟩ := Int.eq_ofNat_of_zero_le h0
  exact h ⟨m, by omega⟩

def victimGo : Nat → Int → Int → Int → Int → Int
  | 0, _, _, way, _ => way
  | f + 1, half, node, way, bits =>
    if half ≤ 0 then way
    else victimGo f (half / 2) (2 * node + Go.bits .and .u8 (bits / 2 ^ (node - 1).toNat) 1) (way + Go.bits .and .u8 (bits / 2 ^ (node - 1).toNat) 1 * half) bits
def victimM (bits ways : Int) : Int := victimGo 4 (ways / 2) 1 0 bits

set_option maxHeartbeats 1000000 in
set_option maxRecDepth 10000 in
theorem victim_1 (bits : Int) (w : World) (hb : 0 ≤ bits) (hb2 : bits < 256) :
    Calls Tryd.prog 51 #[.int .u8 bits, .int .i64 1] w fun e w' => e = .returned (.int .i64 (victimM bits 1)) ∧ w = w' := by
  have HP := Lib.hid (isPow_cases (n := 1) (by simp))
  have HB1 := Lib.hid hb
  have HB2 := Lib.hid hb2
  go_enter Tryd.func51, Tryd.ntmps51
  go_wp2_with fail
  refine (plru_right _ _).mono ?_; rintro e w' ⟨rfl, rfl⟩
  rw [HP.out]
  go_wp2_with fail
  go_rounds 1
  all_goals (go_ret; exact ⟨by simp [victimM, victimGo, *], rfl⟩)

set_option maxHeartbeats 1000000 in
set_option maxRecDepth 10000 in
theorem victim_2 (bits : Int) (w : World) (hb : 0 ≤ bits) (hb2 : bits < 256) :
    Calls Tryd.prog 51 #[.int .u8 bits, .int .i64 2] w fun e w' => e = .returned (.int .i64 (victimM bits 2)) ∧ w = w' := by
  have HP := Lib.hid (isPow_cases (n := 2) (by simp))
  have HB1 := Lib.hid hb
  have HB2 := Lib.hid hb2
  have b0 := bit01 bits (by omega) (by omega)
  rcases b0 with b0 | b0
  ·
    go_enter Tryd.func51, Tryd.ntmps51
    go_wp2_with fail
    refine (plru_right _ _).mono ?_; rintro e w' ⟨rfl, rfl⟩
    rw [HP.out]
    go_wp2_with fail
    go_rounds 2
    all_goals (go_ret; exact ⟨by simp [victimM, victimGo, *], rfl⟩)
  ·
    go_enter Tryd.func51, Tryd.ntmps51
    go_wp2_with fail
    refine (plru_right _ _).mono ?_; rintro e w' ⟨rfl, rfl⟩
    rw [HP.out]
    go_wp2_with fail
    go_rounds 2
    all_goals (go_ret; exact ⟨by simp [victimM, victimGo, *], rfl⟩)

set_option maxHeartbeats 1000000 in
set_option maxRecDepth 10000 in
theorem victim_4 (bits : Int) (w : World) (hb : 0 ≤ bits) (hb2 : bits < 256) :
    Calls Tryd.prog 51 #[.int .u8 bits, .int .i64 4] w fun e w' => e = .returned (.int .i64 (victimM bits 4)) ∧ w = w' := by
  have HP := Lib.hid (isPow_cases (n := 4) (by simp))
  have HB1 := Lib.hid hb
  have HB2 := Lib.hid hb2
  have b0 := bit01 bits (by omega) (by omega)
  have b1 := bit01 (bits / 2) (by omega) (by omega)
  have b2 := bit01 (bits / 4) (by omega) (by omega)
  rcases b0 with b0 | b0
  · rcases b1 with b | b
    ·
      go_enter Tryd.func51, Tryd.ntmps51
      go_wp2_with fail
      refine (plru_right _ _).mono ?_; rintro e w' ⟨rfl, rfl⟩
      rw [HP.out]
      go_wp2_with fail
      go_rounds 3
      all_goals (go_ret; exact ⟨by simp [victimM, victimGo, *], rfl⟩)
    ·
      go_enter Tryd.func51, Tryd.ntmps51
      go_wp2_with fail
      refine (plru_right _ _).mono ?_; rintro e w' ⟨rfl, rfl⟩
      rw [HP.out]
      go_wp2_with fail
      go_rounds 3
      all_goals (go_ret; exact ⟨by simp [victimM, victimGo, *], rfl⟩)
  · rcases b2 with b | b
    ·
      go_enter Tryd.func51, Tryd.ntmps51
      go_wp2_with fail
      refine (plru_right _ _).mono ?_; rintro e w' ⟨rfl, rfl⟩
      rw [HP.out]
      go_wp2_with fail
      go_rounds 3
      all_goals (go_ret; exact ⟨by simp [victimM, victimGo, *], rfl⟩)
    ·
      go_enter Tryd.func51, Tryd.ntmps51
      go_wp2_with fail
      refine (plru_right _ _).mono ?_; rintro e w' ⟨rfl, rfl⟩
      rw [HP.out]
      go_wp2_with fail
      go_rounds 3
      all_goals (go_ret; exact ⟨by simp [victimM, victimGo, *], rfl⟩)

set_option maxHeartbeats 1000000 in
set_option maxRecDepth 10000 in
theorem victim_8 (bits : Int) (w : World) (hb : 0 ≤ bits) (hb2 : bits < 256) :
    Calls Tryd.prog 51 #[.int .u8 bits, .int .i64 8] w fun e w' => e = .returned (.int .i64 (victimM bits 8)) ∧ w = w' := by
  have HP := Lib.hid (isPow_cases (n := 8) (by simp))
  have HB1 := Lib.hid hb
  have HB2 := Lib.hid hb2
  have b0 := bit01 bits (by omega) (by omega)
  have b1 := bit01 (bits / 2) (by omega) (by omega)
  have b2 := bit01 (bits / 4) (by omega) (by omega)
  have b3 := bit01 (bits / 8) (by omega) (by omega)
  have b4 := bit01 (bits / 16) (by omega) (by omega)
  have b5 := bit01 (bits / 32) (by omega) (by omega)
  have b6 := bit01 (bits / 64) (by omega) (by omega)
  rcases b0 with b0 | b0
  · rcases b1 with b | b
    · rcases b3 with b' | b'
      ·
        clear b2 b4 b5 b6
        go_enter Tryd.func51, Tryd.ntmps51
        go_wp2_with fail
        refine (plru_right _ _).mono ?_; rintro e w' ⟨rfl, rfl⟩
        rw [HP.out]
        go_wp2_with fail
        go_rounds 4
        all_goals (go_ret; exact ⟨by simp [victimM, victimGo, *], rfl⟩)
      ·
        clear b2 b4 b5 b6
        go_enter Tryd.func51, Tryd.ntmps51
        go_wp2_with fail
        refine (plru_right _ _).mono ?_; rintro e w' ⟨rfl, rfl⟩
        rw [HP.out]
        go_wp2_with fail
        go_rounds 4
        all_goals (go_ret; exact ⟨by simp [victimM, victimGo, *], rfl⟩)
    · rcases b4 with b' | b'
      ·
        clear b2 b3 b5 b6
        go_enter Tryd.func51, Tryd.ntmps51
        go_wp2_with fail
        refine (plru_right _ _).mono ?_; rintro e w' ⟨rfl, rfl⟩
        rw [HP.out]
        go_wp2_with fail
        go_rounds 4
        all_goals (go_ret; exact ⟨by simp [victimM, victimGo, *], rfl⟩)
      ·
        clear b2 b3 b5 b6
        go_enter Tryd.func51, Tryd.ntmps51
        go_wp2_with fail
        refine (plru_right _ _).mono ?_; rintro e w' ⟨rfl, rfl⟩
        rw [HP.out]
        go_wp2_with fail
        go_rounds 4
        all_goals (go_ret; exact ⟨by simp [victimM, victimGo, *], rfl⟩)
  · rcases b2 with b | b
    · rcases b5 with b' | b'
      ·
        clear b1 b3 b4 b6
        go_enter Tryd.func51, Tryd.ntmps51
        go_wp2_with fail
        refine (plru_right _ _).mono ?_; rintro e w' ⟨rfl, rfl⟩
        rw [HP.out]
        go_wp2_with fail
        go_rounds 4
        all_goals (go_ret; exact ⟨by simp [victimM, victimGo, *], rfl⟩)
      ·
        clear b1 b3 b4 b6
        go_enter Tryd.func51, Tryd.ntmps51
        go_wp2_with fail
        refine (plru_right _ _).mono ?_; rintro e w' ⟨rfl, rfl⟩
        rw [HP.out]
        go_wp2_with fail
        go_rounds 4
        all_goals (go_ret; exact ⟨by simp [victimM, victimGo, *], rfl⟩)
    · rcases b6 with b' | b'
      ·
        clear b1 b3 b4 b5
        go_enter Tryd.func51, Tryd.ntmps51
        go_wp2_with fail
        refine (plru_right _ _).mono ?_; rintro e w' ⟨rfl, rfl⟩
        rw [HP.out]
        go_wp2_with fail
        go_rounds 4
        all_goals (go_ret; exact ⟨by simp [victimM, victimGo, *], rfl⟩)
      ·
        clear b1 b3 b4 b5
        go_enter Tryd.func51, Tryd.ntmps51
        go_wp2_with fail
        refine (plru_right _ _).mono ?_; rintro e w' ⟨rfl, rfl⟩
        rw [HP.out]
        go_wp2_with fail
        go_rounds 4
        all_goals (go_ret; exact ⟨by simp [victimM, victimGo, *], rfl⟩)

theorem victim_any (bits : Int) (n : Nat) (w : World) (hn : pow8 n) (hb : 0 ≤ bits) (hb2 : bits < 256) :
    Calls Tryd.prog 51 #[.int .u8 bits, .int .i64 n] w fun e w' => e = .returned (.int .i64 (victimM bits n)) ∧ w = w' := by
  rcases hn with rfl | rfl | rfl | rfl
  · exact victim_1 bits w hb hb2
  · exact victim_2 bits w hb hb2
  · exact victim_4 bits w hb hb2
  · exact victim_8 bits w hb hb2

theorem touch_range (bits way : Int) (n : Nat) (hn : pow8 n) (h0 : 0 ≤ way) (h1 : way < n) (hb : 0 ≤ bits) (hb2 : bits < 256) : 0 ≤ touchM bits n way ∧ touchM bits n way < 256 := by
  obtain ⟨b, rfl⟩ := Int.eq_ofNat_of_zero_le hb
  obtain ⟨v, rfl⟩ := Int.eq_ofNat_of_zero_le h0
  have h : ∀ (b : Fin 256) (v : Fin 8), ∀ n ∈ [1, 2, 4, 8], v.val < n → 0 ≤ touchM (b.val : Int) ((n : Nat) : Int) (v.val : Int) ∧ touchM (b.val : Int) ((n : Nat) : Int) (v.val : Int) < 256 := by decide +kernel
  have h8 := hn.le
  exact h ⟨b, by omega⟩ ⟨v, by omega⟩ n (by rcases hn with rfl | rfl | rfl | rfl <;> simp) (by simp; omega)
theorem victim_range (bits : Int) (n : Nat) (hn : pow8 n) (hb : 0 ≤ bits) (hb2 : bits < 256) : 0 ≤ victimM bits n ∧ victimM bits n < n := by
  obtain ⟨b, rfl⟩ := Int.eq_ofNat_of_zero_le hb
  have h : ∀ (b : Fin 256), ∀ n ∈ [1, 2, 4, 8], 0 ≤ victimM (b.val : Int) ((n : Nat) : Int) ∧ victimM (b.val : Int) ((n : Nat) : Int) < ((n : Nat) : Int) := by decide +kernel
  exact h ⟨b, by omega⟩ n (by rcases hn with rfl | rfl | rfl | rfl <;> simp)
end Go.Proofs.YtjmlficbnljiaaaDoor
