/- The document's own tree of bits: two, Touch, Victim: the same as the array's. -/
import Derived.Test.YtjmlficbnljiaaaDoorPlru
namespace Go.Proofs.YtjmlficbnljiaaaDoor
open Go.RowKit

set_option maxHeartbeats 400000 in
theorem ref_two (n : Int) (w : World) :
    Calls Tryd.prog 45 #[.int .i64 n, .int .i64 8] w fun e w' => e = .returned (.bool (isPow n)) ∧ w = w' := by
  go_enter Tryd.func45, Tryd.ntmps45
  go_wp2
  all_goals (go_ret; exact ⟨by simp [isPow, *]; try omega, rfl⟩)

set_option maxHeartbeats 1000000 in
set_option maxRecDepth 10000 in
theorem rtouch_1_0 (bits : Int) (w : World) :
    Calls Tryd.prog 50 #[.int .u8 bits, .int .i64 1, .int .i64 0] w fun e w' => e = .returned (.int .u8 (touchM bits 1 0)) ∧ w = w' := by
  have HP := Lib.hid (isPow_cases (n := 1) (by simp))
  go_enter Tryd.func50, Tryd.ntmps50
  go_wp2_with fail
  refine (ref_two _ _).mono ?_; rintro e w' ⟨rfl, rfl⟩
  rw [HP.out]
  go_wp2_with fail
  go_rounds 1
  all_goals (go_ret; exact ⟨by first | kernel_rfl | (simp [touchM, touchGo, Go.bits]; try rfl; done) | (simp [touchM, touchGo, Go.bits]; intro h; exact absurd (by decide +kernel) h) | (simp [touchM, touchGo, Go.bits]; intro h; exact absurd h (by decide +kernel)), rfl⟩)
set_option maxHeartbeats 1000000 in
set_option maxRecDepth 10000 in
theorem rtouch_2_0 (bits : Int) (w : World) :
    Calls Tryd.prog 50 #[.int .u8 bits, .int .i64 2, .int .i64 0] w fun e w' => e = .returned (.int .u8 (touchM bits 2 0)) ∧ w = w' := by
  have HP := Lib.hid (isPow_cases (n := 2) (by simp))
  go_enter Tryd.func50, Tryd.ntmps50
  go_wp2_with fail
  refine (ref_two _ _).mono ?_; rintro e w' ⟨rfl, rfl⟩
  rw [HP.out]
  go_wp2_with fail
  go_rounds 2
  all_goals (go_ret; exact ⟨by first | kernel_rfl | (simp [touchM, touchGo, Go.bits]; try rfl; done) | (simp [touchM, touchGo, Go.bits]; intro h; exact absurd (by decide +kernel) h) | (simp [touchM, touchGo, Go.bits]; intro h; exact absurd h (by decide +kernel)), rfl⟩)
set_option maxHeartbeats 1000000 in
set_option maxRecDepth 10000 in
theorem rtouch_2_1 (bits : Int) (w : World) :
    Calls Tryd.prog 50 #[.int .u8 bits, .int .i64 2, .int .i64 1] w fun e w' => e = .returned (.int .u8 (touchM bits 2 1)) ∧ w = w' := by
  have HP := Lib.hid (isPow_cases (n := 2) (by simp))
  go_enter Tryd.func50, Tryd.ntmps50
  go_wp2_with fail
  refine (ref_two _ _).mono ?_; rintro e w' ⟨rfl, rfl⟩
  rw [HP.out]
  go_wp2_with fail
  go_rounds 2
  all_goals (go_ret; exact ⟨by first | kernel_rfl | (simp [touchM, touchGo, Go.bits]; try rfl; done) | (simp [touchM, touchGo, Go.bits]; intro h; exact absurd (by decide +kernel) h) | (simp [touchM, touchGo, Go.bits]; intro h; exact absurd h (by decide +kernel)), rfl⟩)
set_option maxHeartbeats 1000000 in
set_option maxRecDepth 10000 in
theorem rtouch_4_0 (bits : Int) (w : World) :
    Calls Tryd.prog 50 #[.int .u8 bits, .int .i64 4, .int .i64 0] w fun e w' => e = .returned (.int .u8 (touchM bits 4 0)) ∧ w = w' := by
  have HP := Lib.hid (isPow_cases (n := 4) (by simp))
  go_enter Tryd.func50, Tryd.ntmps50
  go_wp2_with fail
  refine (ref_two _ _).mono ?_; rintro e w' ⟨rfl, rfl⟩
  rw [HP.out]
  go_wp2_with fail
  go_rounds 3
  all_goals (go_ret; exact ⟨by first | kernel_rfl | (simp [touchM, touchGo, Go.bits]; try rfl; done) | (simp [touchM, touchGo, Go.bits]; intro h; exact absurd (by decide +kernel) h) | (simp [touchM, touchGo, Go.bits]; intro h; exact absurd h (by decide +kernel)), rfl⟩)
set_option maxHeartbeats 1000000 in
set_option maxRecDepth 10000 in
theorem rtouch_4_1 (bits : Int) (w : World) :
    Calls Tryd.prog 50 #[.int .u8 bits, .int .i64 4, .int .i64 1] w fun e w' => e = .returned (.int .u8 (touchM bits 4 1)) ∧ w = w' := by
  have HP := Lib.hid (isPow_cases (n := 4) (by simp))
  go_enter Tryd.func50, Tryd.ntmps50
  go_wp2_with fail
  refine (ref_two _ _).mono ?_; rintro e w' ⟨rfl, rfl⟩
  rw [HP.out]
  go_wp2_with fail
  go_rounds 3
  all_goals (go_ret; exact ⟨by first | kernel_rfl | (simp [touchM, touchGo, Go.bits]; try rfl; done) | (simp [touchM, touchGo, Go.bits]; intro h; exact absurd (by decide +kernel) h) | (simp [touchM, touchGo, Go.bits]; intro h; exact absurd h (by decide +kernel)), rfl⟩)
set_option maxHeartbeats 1000000 in
set_option maxRecDepth 10000 in
theorem rtouch_4_2 (bits : Int) (w : World) :
    Calls Tryd.prog 50 #[.int .u8 bits, .int .i64 4, .int .i64 2] w fun e w' => e = .returned (.int .u8 (touchM bits 4 2)) ∧ w = w' := by
  have HP := Lib.hid (isPow_cases (n := 4) (by simp))
  go_enter Tryd.func50, Tryd.ntmps50
  go_wp2_with fail
  refine (ref_two _ _).mono ?_; rintro e w' ⟨rfl, rfl⟩
  rw [HP.out]
  go_wp2_with fail
  go_rounds 3
  all_goals (go_ret; exact ⟨by first | kernel_rfl | (simp [touchM, touchGo, Go.bits]; try rfl; done) | (simp [touchM, touchGo, Go.bits]; intro h; exact absurd (by decide +kernel) h) | (simp [touchM, touchGo, Go.bits]; intro h; exact absurd h (by decide +kernel)), rfl⟩)
set_option maxHeartbeats 1000000 in
set_option maxRecDepth 10000 in
theorem rtouch_4_3 (bits : Int) (w : World) :
    Calls Tryd.prog 50 #[.int .u8 bits, .int .i64 4, .int .i64 3] w fun e w' => e = .returned (.int .u8 (touchM bits 4 3)) ∧ w = w' := by
  have HP := Lib.hid (isPow_cases (n := 4) (by simp))
  go_enter Tryd.func50, Tryd.ntmps50
  go_wp2_with fail
  refine (ref_two _ _).mono ?_; rintro e w' ⟨rfl, rfl⟩
  rw [HP.out]
  go_wp2_with fail
  go_rounds 3
  all_goals (go_ret; exact ⟨by first | kernel_rfl | (simp [touchM, touchGo, Go.bits]; try rfl; done) | (simp [touchM, touchGo, Go.bits]; intro h; exact absurd (by decide +kernel) h) | (simp [touchM, touchGo, Go.bits]; intro h; exact absurd h (by decide +kernel)), rfl⟩)
set_option maxHeartbeats 1000000 in
set_option maxRecDepth 10000 in
theorem rtouch_8_0 (bits : Int) (w : World) :
    Calls Tryd.prog 50 #[.int .u8 bits, .int .i64 8, .int .i64 0] w fun e w' => e = .returned (.int .u8 (touchM bits 8 0)) ∧ w = w' := by
  have HP := Lib.hid (isPow_cases (n := 8) (by simp))
  go_enter Tryd.func50, Tryd.ntmps50
  go_wp2_with fail
  refine (ref_two _ _).mono ?_; rintro e w' ⟨rfl, rfl⟩
  rw [HP.out]
  go_wp2_with fail
  go_rounds 4
  all_goals (go_ret; exact ⟨by first | kernel_rfl | (simp [touchM, touchGo, Go.bits]; try rfl; done) | (simp [touchM, touchGo, Go.bits]; intro h; exact absurd (by decide +kernel) h) | (simp [touchM, touchGo, Go.bits]; intro h; exact absurd h (by decide +kernel)), rfl⟩)
set_option maxHeartbeats 1000000 in
set_option maxRecDepth 10000 in
theorem rtouch_8_1 (bits : Int) (w : World) :
    Calls Tryd.prog 50 #[.int .u8 bits, .int .i64 8, .int .i64 1] w fun e w' => e = .returned (.int .u8 (touchM bits 8 1)) ∧ w = w' := by
  have HP := Lib.hid (isPow_cases (n := 8) (by simp))
  go_enter Tryd.func50, Tryd.ntmps50
  go_wp2_with fail
  refine (ref_two _ _).mono ?_; rintro e w' ⟨rfl, rfl⟩
  rw [HP.out]
  go_wp2_with fail
  go_rounds 4
  all_goals (go_ret; exact ⟨by first | kernel_rfl | (simp [touchM, touchGo, Go.bits]; try rfl; done) | (simp [touchM, touchGo, Go.bits]; intro h; exact absurd (by decide +kernel) h) | (simp [touchM, touchGo, Go.bits]; intro h; exact absurd h (by decide +kernel)), rfl⟩)
set_option maxHeartbeats 1000000 in
set_option maxRecDepth 10000 in
theorem rtouch_8_2 (bits : Int) (w : World) :
    Calls Tryd.prog 50 #[.int .u8 bits, .int .i64 8, .int .i64 2] w fun e w' => e = .returned (.int .u8 (touchM bits 8 2)) ∧ w = w' := by
  have HP := Lib.hid (isPow_cases (n := 8) (by simp))
  go_enter Tryd.func50, Tryd.ntmps50
  go_wp2_with fail
  refine (ref_two _ _).mono ?_; rintro e w' ⟨rfl, rfl⟩
  rw [HP.out]
  go_wp2_with fail
  go_rounds 4
  all_goals (go_ret; exact ⟨by first | kernel_rfl | (simp [touchM, touchGo, Go.bits]; try rfl; done) | (simp [touchM, touchGo, Go.bits]; intro h; exact absurd (by decide +kernel) h) | (simp [touchM, touchGo, Go.bits]; intro h; exact absurd h (by decide +kernel)), rfl⟩)
set_option maxHeartbeats 1000000 in
set_option maxRecDepth 10000 in
theorem rtouch_8_3 (bits : Int) (w : World) :
    Calls Tryd.prog 50 #[.int .u8 bits, .int .i64 8, .int .i64 3] w fun e w' => e = .returned (.int .u8 (touchM bits 8 3)) ∧ w = w' := by
  have HP := Lib.hid (isPow_cases (n := 8) (by simp))
  go_enter Tryd.func50, Tryd.ntmps50
  go_wp2_with fail
  refine (ref_two _ _).mono ?_; rintro e w' ⟨rfl, rfl⟩
  rw [HP.out]
  go_wp2_with fail
  go_rounds 4
  all_goals (go_ret; exact ⟨by first | kernel_rfl | (simp [touchM, touchGo, Go.bits]; try rfl; done) | (simp [touchM, touchGo, Go.bits]; intro h; exact absurd (by decide +kernel) h) | (simp [touchM, touchGo, Go.bits]; intro h; exact absurd h (by decide +kernel)), rfl⟩)
set_option maxHeartbeats 1000000 in
set_option maxRecDepth 10000 in
theorem rtouch_8_4 (bits : Int) (w : World) :
    Calls Tryd.prog 50 #[.int .u8 bits, .int .i64 8, .int .i64 4] w fun e w' => e = .returned (.int .u8 (touchM bits 8 4)) ∧ w = w' := by
  have HP := Lib.hid (isPow_cases (n := 8) (by simp))
  go_enter Tryd.func50, Tryd.ntmps50
  go_wp2_with fail
  refine (ref_two _ _).mono ?_; rintro e w' ⟨rfl, rfl⟩
  rw [HP.out]
  go_wp2_with fail
  go_rounds 4
  all_goals (go_ret; exact ⟨by first | kernel_rfl | (simp [touchM, touchGo, Go.bits]; try rfl; done) | (simp [touchM, touchGo, Go.bits]; intro h; exact absurd (by decide +kernel) h) | (simp [touchM, touchGo, Go.bits]; intro h; exact absurd h (by decide +kernel)), rfl⟩)
set_option maxHeartbeats 1000000 in
set_option maxRecDepth 10000 in
theorem rtouch_8_5 (bits : Int) (w : World) :
    Calls Tryd.prog 50 #[.int .u8 bits, .int .i64 8, .int .i64 5] w fun e w' => e = .returned (.int .u8 (touchM bits 8 5)) ∧ w = w' := by
  have HP := Lib.hid (isPow_cases (n := 8) (by simp))
  go_enter Tryd.func50, Tryd.ntmps50
  go_wp2_with fail
  refine (ref_two _ _).mono ?_; rintro e w' ⟨rfl, rfl⟩
  rw [HP.out]
  go_wp2_with fail
  go_rounds 4
  all_goals (go_ret; exact ⟨by first | kernel_rfl | (simp [touchM, touchGo, Go.bits]; try rfl; done) | (simp [touchM, touchGo, Go.bits]; intro h; exact absurd (by decide +kernel) h) | (simp [touchM, touchGo, Go.bits]; intro h; exact absurd h (by decide +kernel)), rfl⟩)
set_option maxHeartbeats 1000000 in
set_option maxRecDepth 10000 in
theorem rtouch_8_6 (bits : Int) (w : World) :
    Calls Tryd.prog 50 #[.int .u8 bits, .int .i64 8, .int .i64 6] w fun e w' => e = .returned (.int .u8 (touchM bits 8 6)) ∧ w = w' := by
  have HP := Lib.hid (isPow_cases (n := 8) (by simp))
  go_enter Tryd.func50, Tryd.ntmps50
  go_wp2_with fail
  refine (ref_two _ _).mono ?_; rintro e w' ⟨rfl, rfl⟩
  rw [HP.out]
  go_wp2_with fail
  go_rounds 4
  all_goals (go_ret; exact ⟨by first | kernel_rfl | (simp [touchM, touchGo, Go.bits]; try rfl; done) | (simp [touchM, touchGo, Go.bits]; intro h; exact absurd (by decide +kernel) h) | (simp [touchM, touchGo, Go.bits]; intro h; exact absurd h (by decide +kernel)), rfl⟩)
set_option maxHeartbeats 1000000 in
set_option maxRecDepth 10000 in
theorem rtouch_8_7 (bits : Int) (w : World) :
    Calls Tryd.prog 50 #[.int .u8 bits, .int .i64 8, .int .i64 7] w fun e w' => e = .returned (.int .u8 (touchM bits 8 7)) ∧ w = w' := by
  have HP := Lib.hid (isPow_cases (n := 8) (by simp))
  go_enter Tryd.func50, Tryd.ntmps50
  go_wp2_with fail
  refine (ref_two _ _).mono ?_; rintro e w' ⟨rfl, rfl⟩
  rw [HP.out]
  go_wp2_with fail
  go_rounds 4
  all_goals (go_ret; exact ⟨by first | kernel_rfl | (simp [touchM, touchGo, Go.bits]; try rfl; done) | (simp [touchM, touchGo, Go.bits]; intro h; exact absurd (by decide +kernel) h) | (simp [touchM, touchGo, Go.bits]; intro h; exact absurd h (by decide +kernel)), rfl⟩)
theorem rtouch_any (bits way : Int) (n : Nat) (w : World) (hn : pow8 n) (h0 : 0 ≤ way) (h1 : way < n) :
    Calls Tryd.prog 50 #[.int .u8 bits, .int .i64 n, .int .i64 way] w fun e w' => e = .returned (.int .u8 (touchM bits n way)) ∧ w = w' := by
  rcases hn with rfl | rfl | rfl | rfl
  · obtain rfl : way = 0 := by omega
    exact rtouch_1_0 bits w
  · rcases (show way = 0 ∨ way = 1 by omega) with rfl | rfl
    · exact rtouch_2_0 bits w
    · exact rtouch_2_1 bits w
  · rcases (show way = 0 ∨ way = 1 ∨ way = 2 ∨ way = 3 by omega) with rfl | rfl | rfl | rfl
    · exact rtouch_4_0 bits w
    · exact rtouch_4_1 bits w
    · exact rtouch_4_2 bits w
    · exact rtouch_4_3 bits w
  · rcases (show way = 0 ∨ way = 1 ∨ way = 2 ∨ way = 3 ∨ way = 4 ∨ way = 5 ∨ way = 6 ∨ way = 7 by omega) with rfl | rfl | rfl | rfl | rfl | rfl | rfl | rfl
    · exact rtouch_8_0 bits w
    · exact rtouch_8_1 bits w
    · exact rtouch_8_2 bits w
    · exact rtouch_8_3 bits w
    · exact rtouch_8_4 bits w
    · exact rtouch_8_5 bits w
    · exact rtouch_8_6 bits w
    · exact rtouch_8_7 bits w

set_option maxHeartbeats 1000000 in
set_option maxRecDepth 10000 in
theorem rvictim_1 (bits : Int) (w : World) (hb : 0 ≤ bits) (hb2 : bits < 256) :
    Calls Tryd.prog 53 #[.int .u8 bits, .int .i64 1] w fun e w' => e = .returned (.int .i64 (victimM bits 1)) ∧ w = w' := by
  have HP := Lib.hid (isPow_cases (n := 1) (by simp))
  have HB1 := Lib.hid hb
  have HB2 := Lib.hid hb2
  go_enter Tryd.func53, Tryd.ntmps53
  go_wp2_with fail
  refine (ref_two _ _).mono ?_; rintro e w' ⟨rfl, rfl⟩
  rw [HP.out]
  go_wp2_with fail
  go_rounds 1
  all_goals (go_ret; exact ⟨by simp [victimM, victimGo, *], rfl⟩)

set_option maxHeartbeats 1000000 in
set_option maxRecDepth 10000 in
theorem rvictim_2 (bits : Int) (w : World) (hb : 0 ≤ bits) (hb2 : bits < 256) :
    Calls Tryd.prog 53 #[.int .u8 bits, .int .i64 2] w fun e w' => e = .returned (.int .i64 (victimM bits 2)) ∧ w = w' := by
  have HP := Lib.hid (isPow_cases (n := 2) (by simp))
  have HB1 := Lib.hid hb
  have HB2 := Lib.hid hb2
  have b0 := bit01 bits (by omega) (by omega)
  rcases b0 with b0 | b0
  ·
    go_enter Tryd.func53, Tryd.ntmps53
    go_wp2_with fail
    refine (ref_two _ _).mono ?_; rintro e w' ⟨rfl, rfl⟩
    rw [HP.out]
    go_wp2_with fail
    go_rounds 2
    all_goals (go_ret; exact ⟨by simp [victimM, victimGo, *], rfl⟩)
  ·
    go_enter Tryd.func53, Tryd.ntmps53
    go_wp2_with fail
    refine (ref_two _ _).mono ?_; rintro e w' ⟨rfl, rfl⟩
    rw [HP.out]
    go_wp2_with fail
    go_rounds 2
    all_goals (go_ret; exact ⟨by simp [victimM, victimGo, *], rfl⟩)

set_option maxHeartbeats 1000000 in
set_option maxRecDepth 10000 in
theorem rvictim_4 (bits : Int) (w : World) (hb : 0 ≤ bits) (hb2 : bits < 256) :
    Calls Tryd.prog 53 #[.int .u8 bits, .int .i64 4] w fun e w' => e = .returned (.int .i64 (victimM bits 4)) ∧ w = w' := by
  have HP := Lib.hid (isPow_cases (n := 4) (by simp))
  have HB1 := Lib.hid hb
  have HB2 := Lib.hid hb2
  have b0 := bit01 bits (by omega) (by omega)
  have b1 := bit01 (bits / 2) (by omega) (by omega)
  have b2 := bit01 (bits / 4) (by omega) (by omega)
  rcases b0 with b0 | b0
  · rcases b1 with b | b
    ·
      go_enter Tryd.func53, Tryd.ntmps53
      go_wp2_with fail
      refine (ref_two _ _).mono ?_; rintro e w' ⟨rfl, rfl⟩
      rw [HP.out]
      go_wp2_with fail
      go_rounds 3
      all_goals (go_ret; exact ⟨by simp [victimM, victimGo, *], rfl⟩)
    ·
      go_enter Tryd.func53, Tryd.ntmps53
      go_wp2_with fail
      refine (ref_two _ _).mono ?_; rintro e w' ⟨rfl, rfl⟩
      rw [HP.out]
      go_wp2_with fail
      go_rounds 3
      all_goals (go_ret; exact ⟨by simp [victimM, victimGo, *], rfl⟩)
  · rcases b2 with b | b
    ·
      go_enter Tryd.func53, Tryd.ntmps53
      go_wp2_with fail
      refine (ref_two _ _).mono ?_; rintro e w' ⟨rfl, rfl⟩
      rw [HP.out]
      go_wp2_with fail
      go_rounds 3
      all_goals (go_ret; exact ⟨by simp [victimM, victimGo, *], rfl⟩)
    ·
      go_enter Tryd.func53, Tryd.ntmps53
      go_wp2_with fail
      refine (ref_two _ _).mono ?_; rintro e w' ⟨rfl, rfl⟩
      rw [HP.out]
      go_wp2_with fail
      go_rounds 3
      all_goals (go_ret; exact ⟨by simp [victimM, victimGo, *], rfl⟩)

set_option maxHeartbeats 1000000 in
set_option maxRecDepth 10000 in
theorem rvictim_8 (bits : Int) (w : World) (hb : 0 ≤ bits) (hb2 : bits < 256) :
    Calls Tryd.prog 53 #[.int .u8 bits, .int .i64 8] w fun e w' => e = .returned (.int .i64 (victimM bits 8)) ∧ w = w' := by
  have HP := Lib.hid (isPow_cases (n := 8) (by simp))
  have HB1 := Lib.hid hb
  have HB2 := Lib.hid hb2
  have b0 := bit01 bits (by omega) (by omega)
  have b1 := bit01 (bits / 2) (by omega) (by omega)
  have b2 := bit01 (bits / 4) (by omega) (by omega)
  have b3 := bit01 (bits / 8) (by omega) (by omega)
  have b4 := bit01 (bits / 16) (by omega) (by omega)
  have b5 := bit01 (bits / 32) (by omega) (by omega)
  have b6 := bit01 (bits / 64) (by omega) (by omega)
  rcases b0 with b0 | b0
  · rcases b1 with b | b
    · rcases b3 with b' | b'
      ·
        clear b2 b4 b5 b6
        go_enter Tryd.func53, Tryd.ntmps53
        go_wp2_with fail
        refine (ref_two _ _).mono ?_; rintro e w' ⟨rfl, rfl⟩
        rw [HP.out]
        go_wp2_with fail
        go_rounds 4
        all_goals (go_ret; exact ⟨by simp [victimM, victimGo, *], rfl⟩)
      ·
        clear b2 b4 b5 b6
        go_enter Tryd.func53, Tryd.ntmps53
        go_wp2_with fail
        refine (ref_two _ _).mono ?_; rintro e w' ⟨rfl, rfl⟩
        rw [HP.out]
        go_wp2_with fail
        go_rounds 4
        all_goals (go_ret; exact ⟨by simp [victimM, victimGo, *], rfl⟩)
    · rcases b4 with b' | b'
      ·
        clear b2 b3 b5 b6
        go_enter Tryd.func53, Tryd.ntmps53
        go_wp2_with fail
        refine (ref_two _ _).mono ?_; rintro e w' ⟨rfl, rfl⟩
        rw [HP.out]
        go_wp2_with fail
        go_rounds 4
        all_goals (go_ret; exact ⟨by simp [victimM, victimGo, *], rfl⟩)
      ·
        clear b2 b3 b5 b6
        go_enter Tryd.func53, Tryd.ntmps53
        go_wp2_with fail
        refine (ref_two _ _).mono ?_; rintro e w' ⟨rfl, rfl⟩
        rw [HP.out]
        go_wp2_with fail
        go_rounds 4
        all_goals (go_ret; exact ⟨by simp [victimM, victimGo, *], rfl⟩)
  · rcases b2 with b | b
    · rcases b5 with b' | b'
      ·
        clear b1 b3 b4 b6
        go_enter Tryd.func53, Tryd.ntmps53
        go_wp2_with fail
        refine (ref_two _ _).mono ?_; rintro e w' ⟨rfl, rfl⟩
        rw [HP.out]
        go_wp2_with fail
        go_rounds 4
        all_goals (go_ret; exact ⟨by simp [victimM, victimGo, *], rfl⟩)
      ·
        clear b1 b3 b4 b6
        go_enter Tryd.func53, Tryd.ntmps53
        go_wp2_with fail
        refine (ref_two _ _).mono ?_; rintro e w' ⟨rfl, rfl⟩
        rw [HP.out]
        go_wp2_with fail
        go_rounds 4
        all_goals (go_ret; exact ⟨by simp [victimM, victimGo, *], rfl⟩)
    · rcases b6 with b' | b'
      ·
        clear b1 b3 b4 b5
        go_enter Tryd.func53, Tryd.ntmps53
        go_wp2_with fail
        refine (ref_two _ _).mono ?_; rintro e w' ⟨rfl, rfl⟩
        rw [HP.out]
        go_wp2_with fail
        go_rounds 4
        all_goals (go_ret; exact ⟨by simp [victimM, victimGo, *], rfl⟩)
      ·
        clear b1 b3 b4 b5
        go_enter Tryd.func53, Tryd.ntmps53
        go_wp2_with fail
        refine (ref_two _ _).mono ?_; rintro e w' ⟨rfl, rfl⟩
        rw [HP.out]
        go_wp2_with fail
        go_rounds 4
        all_goals (go_ret; exact ⟨by simp [victimM, victimGo, *], rfl⟩)

theorem rvictim_any (bits : Int) (n : Nat) (w : World) (hn : pow8 n) (hb : 0 ≤ bits) (hb2 : bits < 256) :
    Calls Tryd.prog 53 #[.int .u8 bits, .int .i64 n] w fun e w' => e = .returned (.int .i64 (victimM bits n)) ∧ w = w' := by
  rcases hn with rfl | rfl | rfl | rfl
  · exact rvictim_1 bits w hb hb2
  · exact rvictim_2 bits w hb hb2
  · exact rvictim_4 bits w hb hb2
  · exact rvictim_8 bits w hb hb2

end Go.Proofs.YtjmlficbnljiaaaDoor
