/- The array's home, find, free, Get, Room. -/
import Derived.Test.YtjmlficbnljiaaaDoorArr
namespace Go.Proofs.YtjmlficbnljiaaaDoor
open Go.RowKit

def pow8 (n : Nat) : Prop := n = 1 ∨ n = 2 ∨ n = 4 ∨ n = 8
theorem pow8.isPow {n : Nat} (h : pow8 n) : isPow (n : Int) = true := by rcases h with rfl | rfl | rfl | rfl <;> exact isPow_cases (by simp)
theorem pow8.pos {n : Nat} (h : pow8 n) : 1 ≤ n := by rcases h with rfl | rfl | rfl | rfl <;> omega
theorem pow8.le {n : Nat} (h : pow8 n) : n ≤ 8 := by rcases h with rfl | rfl | rfl | rfl <;> omega

theorem setIx_lt {line : Int} {n : Nat} (hn : 1 ≤ n) (h0 : 0 ≤ line) (h1 : line ≤ 31) : ∃ i : Nat, i < n ∧ setIx line n = i ∧ i = (line.toNat % n) := by
  refine ⟨line.toNat % n, Nat.mod_lt _ hn, ?_, rfl⟩
  unfold setIx; rw [if_pos ⟨h0, h1⟩]
  obtain ⟨m, rfl⟩ := Int.eq_ofNat_of_zero_le h0
  simp

set_option maxHeartbeats 400000 in
theorem home_in {w : World} {A S : Nat} {l : List (Nat × SetM)} (h : ArrAt w A S l) (hn : pow8 l.length) (line : Int) (i : Nat) (hi : setIx line l.length = i) (hil : i < l.length) :
    Calls Tryd.prog 60 #[.pointer (some ⟨A, 0, none⟩), .int .i64 line] w fun e w' => e = .returned (.pointer (some ⟨S, i * 2, none⟩)) ∧ w = w' := by
  have c0 := h.head
  have HP := Lib.hid hn.isPow
  have hp := hn.pos
  have h8 := hn.le
  have HI := Lib.hid hi
  clear hi h hn
  go_enter Tryd.func60, Tryd.ntmps60
  go_wp2_with fail
  refine (geom_Set _ _ _ HP.out (by omega)).mono ?_; rintro e w' ⟨rfl, rfl⟩
  rw [HI.out]
  go_wp2_with fail
  go_ret
  exact ⟨rfl, rfl⟩

set_option maxHeartbeats 400000 in
theorem home_out {w : World} {A S : Nat} {l : List (Nat × SetM)} (h : ArrAt w A S l) (hn : pow8 l.length) (line : Int) (hi : setIx line l.length = -1) :
    Calls Tryd.prog 60 #[.pointer (some ⟨A, 0, none⟩), .int .i64 line] w fun e w' => e = .returned (.pointer none) ∧ w = w' := by
  have c0 := h.head
  have HP := Lib.hid hn.isPow
  have hp := hn.pos
  have h8 := hn.le
  have HI := Lib.hid hi
  clear hi h hn
  go_enter Tryd.func60, Tryd.ntmps60
  go_wp2_with fail
  refine (geom_Set _ _ _ HP.out (by omega)).mono ?_; rintro e w' ⟨rfl, rfl⟩
  rw [HI.out]
  go_wp2_with fail
  go_ret
  exact ⟨rfl, rfl⟩

set_option maxHeartbeats 400000 in
set_option maxRecDepth 10000 in
theorem find_in {w : World} {A S : Nat} {l : List (Nat × SetM)} (h : ArrAt w A S l) (hn : pow8 l.length) (line : Int) (i : Nat) (hi : setIx line l.length = i) (x : Nat × SetM) (hx : l[i]? = some x) (hk : x.2.ways.length ≤ 8) :
    Calls Tryd.prog 41 #[.pointer (some ⟨A, 0, none⟩), .int .i64 line] w fun e w' => e = .returned (.tuple #[.pointer (some ⟨S, i * 2, none⟩), .int .i64 (idxOf (isLine line) x.2.ways)]) ∧ Below w.heap.size w w' := by
  have hil : i < l.length := (List.getElem?_eq_some_iff.1 hx).1
  have hB0 : Below w.heap.size w (w.alloc (.cells #[.int .i64 line] 3)) := (Below.refl _ _).alloc (Nat.le_refl _) _
  have hA' := h.below hB0
  have c1 := hA'.slice hx
  have hx' : x ∈ l := List.mem_of_getElem? hx
  have hcl : (w.alloc (.cells #[.int .i64 line] 3)).cell? ⟨w.heap.size, 0, none⟩ = some (.int .i64 line) := by simp
  have hls : w.heap.size < (w.alloc (.cells #[.int .i64 line] 3)).heap.size := by simp
  have HCL := Lib.hid hcl; clear hcl
  have HLS := Lib.hid hls; clear hls
  have HH := Lib.hid hA'
  have hmf : ∀ (fn : Fn) (first cap : Array Value) (w : World), (Instr.makeFunc fn first cap).run Tryd.prog w = .ok (.func fn first cap) w := fun _ _ _ _ => rfl
  clear hA' h
  have HX := Lib.hid hx; clear hx
  have HI := Lib.hid hi; clear hi
  go_enter Tryd.func41, Tryd.ntmps41
  go_wp2_with fail
  refine (home_in HH.out hn line i HI.out hil).mono ?_; rintro e w' ⟨rfl, rfl⟩
  go_wp2_with fail
  refine (indexFunc_ent _ _ (isLine line) x.2.ways x.1 _ _ _ hk (HH.out.ways x hx') callFunc_find (fun v => #[v, .pointer (some ⟨w.heap.size, 0, none⟩)]) (fun _ => by simp) (fun e w1 hB1 => find_fn e line w.heap.size w1 (cell_below hB1 HCL.out HLS.out))).mono ?_
  rintro e w' ⟨rfl, hB⟩
  go_wp2_with fail
  go_ret2
  exact ⟨rfl, hB0.trans (hB.mono (by simp))⟩

set_option maxHeartbeats 400000 in
theorem find_out {w : World} {A S : Nat} {l : List (Nat × SetM)} (h : ArrAt w A S l) (hn : pow8 l.length) (line : Int) (hi : setIx line l.length = -1) :
    Calls Tryd.prog 41 #[.pointer (some ⟨A, 0, none⟩), .int .i64 line] w fun e w' => e = .returned (.tuple #[.pointer none, .int .i64 (-1)]) ∧ Below w.heap.size w w' := by
  have hB0 : Below w.heap.size w (w.alloc (.cells #[.int .i64 line] 3)) := (Below.refl _ _).alloc (Nat.le_refl _) _
  have HH := Lib.hid (h.below hB0)
  clear h
  have HI := Lib.hid hi; clear hi
  go_enter Tryd.func41, Tryd.ntmps41
  go_wp2_with fail
  refine (home_out HH.out hn line HI.out).mono ?_; rintro e w' ⟨rfl, rfl⟩
  go_wp2_with fail
  go_ret2
  exact ⟨rfl, hB0⟩

set_option maxHeartbeats 400000 in
set_option maxRecDepth 10000 in
theorem free_any {w : World} {A S : Nat} {l : List (Nat × SetM)} (h : ArrAt w A S l) (i : Nat) (x : Nat × SetM) (hx : l[i]? = some x) (hk : x.2.ways.length ≤ 8) :
    Calls Tryd.prog 42 #[.pointer (some ⟨S, i * 2, none⟩)] w fun e w' => e = .returned (.int .i64 (idxOf isFree x.2.ways)) ∧ Below w.heap.size w w' := by
  have c1 := h.slice hx
  have hx' : x ∈ l := List.mem_of_getElem? hx
  have HH := Lib.hid h
  clear h
  have HX := Lib.hid hx; clear hx
  go_enter Tryd.func42, Tryd.ntmps42
  go_wp2_with fail
  refine (indexFunc_ent _ _ isFree x.2.ways x.1 _ _ _ hk (HH.out.ways x hx') callFunc_free (fun v => #[v]) (fun _ => by simp) (fun e w1 _ => free_fn e w1)).mono ?_
  rintro e w' ⟨rfl, hB⟩
  go_wp2_with fail
  go_ret
  exact ⟨rfl, hB⟩
end Go.Proofs.YtjmlficbnljiaaaDoor
