/- The walks of the array's Drop, Touch, Room, Put. -/
import Derived.Test.YtjmlficbnljiaaaDoorArrP
namespace Go.Proofs.YtjmlficbnljiaaaDoor
open Go.RowKit

abbrev FindC (A : Nat) (line idx : Int) (p : Option Addr) (w : World) : Prop := Calls Tryd.prog 41 #[.pointer (some ⟨A, 0, none⟩), .int .i64 line] w fun e w' => e = .returned (.tuple #[.pointer p, .int .i64 idx]) ∧ Below w.heap.size w w'

set_option maxHeartbeats 800000 in
set_option maxRecDepth 10000 in
theorem Drop_none {w : World} {A : Nat} (line idx : Int) (p : Option Addr) (hidx : idx < 0) (hf : FindC A line idx p w) :
    Calls Tryd.prog 8 #[.pointer (some ⟨A, 0, none⟩), .int .i64 line] w fun e w' => e = .returned (.bool false) ∧ Below w.heap.size w w' := by
  have HF := Lib.hid hf; clear hf
  go_enter Tryd.func8, Tryd.ntmps8
  go_wp2_with fail
  refine HF.out.mono ?_; rintro e w1 ⟨rfl, hB⟩
  go_wp2_with fail
  go_ret
  exact ⟨rfl, hB⟩

set_option maxHeartbeats 800000 in
set_option maxRecDepth 10000 in
theorem Drop_some {w : World} {A S : Nat} {l : List (Nat × SetM)} (h : ArrAt w A S l) (line : Int) (i : Nat) (x : Nat × SetM) (hx : l[i]? = some x)
    (j : Nat) (hj : j < x.2.ways.length) (hf : FindC A line j (some ⟨S, i * 2, none⟩) w) :
    Calls Tryd.prog 8 #[.pointer (some ⟨A, 0, none⟩), .int .i64 line] w fun r w' => r = .returned (.bool true) ∧ ArrAt w' A S (l.set i (wayUp x j Ent.zero)) ∧ Fr (fun k => k = x.1) w w' := by
  have hm : x ∈ l := List.mem_of_getElem? hx
  obtain ⟨e, he⟩ : ∃ e, x.2.ways[j]? = some e := ⟨_, List.getElem?_eq_getElem hj⟩
  have HE := Lib.hid he; clear he
  have HF := Lib.hid hf; clear hf
  have HX := Lib.hid hx; clear hx
  have HA := Lib.hid h; clear h
  go_enter Tryd.func8, Tryd.ntmps8
  go_wp2_with fail
  refine HF.out.mono ?_; rintro r w1 ⟨rfl, hB⟩
  have hA := HA.out.below hB
  have cs := hA.slice HX.out
  obtain ⟨b0, b1, b2, b3, b4, b5, b6, b7, b8, b9⟩ := ent_cells (hA.ways x hm) HE.out
  have hfr := (hA.ways x hm).free
  have HA1 := Lib.hid hA; clear hA
  have HB := Lib.hid hB; clear hB
  go_wp2_with fail
  go_ret
  refine ⟨rfl, ?_, ?_⟩
  · exact (HA1.out.setWay HX.out Ent.zero (store_ent_fr j _ _ _ _ _ _ _ _ _ _) (store_ent (HA1.out.ways x hm) hj Ent.zero))
  · exact (Fr.of_below HB.out).then (store_ent_fr j _ _ _ _ _ _ _ _ _ _)

set_option maxHeartbeats 800000 in
set_option maxRecDepth 10000 in
theorem Touch_none {w : World} {A : Nat} (line idx : Int) (p : Option Addr) (hidx : idx < 0) (hf : FindC A line idx p w) :
    Calls Tryd.prog 10 #[.pointer (some ⟨A, 0, none⟩), .int .i64 line] w fun e w' => e = .returned (.bool false) ∧ Below w.heap.size w w' := by
  have HF := Lib.hid hf; clear hf
  go_enter Tryd.func10, Tryd.ntmps10
  go_wp2_with fail
  refine HF.out.mono ?_; rintro e w1 ⟨rfl, hB⟩
  go_wp2_with fail
  go_ret
  exact ⟨rfl, hB⟩

set_option maxHeartbeats 800000 in
set_option maxRecDepth 10000 in
theorem Touch_some {w : World} {A S : Nat} {l : List (Nat × SetM)} (h : ArrAt w A S l) (line : Int) (i : Nat) (x : Nat × SetM) (hx : l[i]? = some x) (hk : pow8 x.2.ways.length)
    (j : Nat) (hj : j < x.2.ways.length) (hf : FindC A line j (some ⟨S, i * 2, none⟩) w) :
    Calls Tryd.prog 10 #[.pointer (some ⟨A, 0, none⟩), .int .i64 line] w fun r w' => r = .returned (.bool true) ∧ ArrAt w' A S (l.set i (bitsUp x (touchM x.2.bits x.2.ways.length j))) ∧ Fr (fun k => k = S) w w' := by
  have hm : x ∈ l := List.mem_of_getElem? hx
  have HF := Lib.hid hf; clear hf
  have HX := Lib.hid hx; clear hx
  have HA := Lib.hid h; clear h
  have HK := Lib.hid hk
  have hk8 := hk.le
  clear hk
  go_enter Tryd.func10, Tryd.ntmps10
  go_wp2_with fail
  refine HF.out.mono ?_; rintro r w1 ⟨rfl, hB⟩
  have hA := HA.out.below hB
  have cb := hA.bits HX.out
  have cs := hA.slice HX.out
  have hfr := hA.sets.free
  have HA1 := Lib.hid hA; clear hA
  have HB := Lib.hid hB; clear hB
  go_wp2_with fail
  refine wp_region_still_tail 14 (by kernel_rfl) (by kernel_rfl) ?_
  simp only [List.take_succ_cons, List.take_zero, List.drop_succ_cons, List.drop_zero]
  iterate 11 still_step
  still_call ((touch_any x.2.bits j x.2.ways.length _ HK.out (by omega) (by omega)).mono fun _ _ h => ⟨h.1, h.2.symm⟩)
  repeat still_step
  refine wpStill_nil ?_
  change wpList _ _ _ _ _ w1.drew
  go_wp2
  go_ret
  refine ⟨rfl, ?_, ?_⟩
  · exact HA1.out.setBits HX.out _ (Fr.drew (fr_set (S := fun k => k = S) (.inl rfl) (Fr.refl _ _))) (HA1.out.sets.set _ _).drew
  · exact Fr.drew (fr_set (S := fun k => k = S) (.inl rfl) (Fr.of_below HB.out))


set_option maxHeartbeats 800000 in
set_option maxRecDepth 10000 in
theorem Room_found {w : World} {A : Nat} (line : Int) (j : Nat) (p : Addr) (hf : FindC A line j (some p) w) :
    Calls Tryd.prog 20 #[.pointer (some ⟨A, 0, none⟩), .int .i64 line] w fun r w' => r = .returned (.bool true) ∧ Below w.heap.size w w' := by
  have HF := Lib.hid hf; clear hf
  go_enter Tryd.func20, Tryd.ntmps20
  go_wp2_with fail
  refine HF.out.mono ?_; rintro r w1 ⟨rfl, hB⟩
  go_wp2_with fail
  go_ret
  exact ⟨rfl, hB⟩
set_option maxHeartbeats 800000 in
set_option maxRecDepth 10000 in
theorem Room_out {w : World} {A : Nat} (line : Int) (hf : FindC A line (-1) none w) :
    Calls Tryd.prog 20 #[.pointer (some ⟨A, 0, none⟩), .int .i64 line] w fun r w' => r = .returned (.bool false) ∧ Below w.heap.size w w' := by
  have HF := Lib.hid hf; clear hf
  go_enter Tryd.func20, Tryd.ntmps20
  go_wp2_with fail
  refine HF.out.mono ?_; rintro r w1 ⟨rfl, hB⟩
  go_wp2_with fail
  go_ret
  exact ⟨rfl, hB⟩
set_option maxHeartbeats 800000 in
set_option maxRecDepth 10000 in
theorem Room_free {w : World} {A S : Nat} {l : List (Nat × SetM)} (h : ArrAt w A S l) (line idx : Int) (i : Nat) (x : Nat × SetM) (hx : l[i]? = some x) (hk : x.2.ways.length ≤ 8)
    (hidx : idx < 0) (hf : FindC A line idx (some ⟨S, i * 2, none⟩) w) :
    Calls Tryd.prog 20 #[.pointer (some ⟨A, 0, none⟩), .int .i64 line] w fun r w' => r = .returned (.bool (decide (0 ≤ idxOf isFree x.2.ways))) ∧ Below w.heap.size w w' := by
  have HF := Lib.hid hf; clear hf
  have HX := Lib.hid hx; clear hx
  have HA := Lib.hid h; clear h
  have hd : decide (0 ≤ idx) = false := by simp; omega
  go_enter Tryd.func20, Tryd.ntmps20
  go_wp2_with fail
  refine HF.out.mono ?_; rintro r w1 ⟨rfl, hB⟩
  have HB := Lib.hid hB; clear hB
  go_wp2_with fail
  refine (free_any (HA.out.below HB.out) i x HX.out hk).mono ?_; rintro r w2 ⟨rfl, hB2⟩
  go_wp2_with fail
  go_ret
  exact ⟨rfl, HB.out.trans (hB2.mono HB.out.size)⟩
end Go.Proofs.YtjmlficbnljiaaaDoor
