/- The document's own array: Drop, Touch, Room. -/
import Derived.Test.YtjmlficbnljiaaaDoorRefW
namespace Go.Proofs.YtjmlficbnljiaaaDoor
open Go.RowKit

set_option maxHeartbeats 800000 in
set_option maxRecDepth 10000 in
theorem rDrop_none {w : World} {R : Nat} (line s idx : Int) (hidx : idx < 0) (hf : RFindC R line s idx w) :
    Calls Tryd.prog 18 #[.pointer (some ⟨R, 0, none⟩), .int .i64 line] w fun e w' => e = .returned (.bool false) ∧ w = w' := by
  have HF := Lib.hid hf; clear hf
  go_enter Tryd.func18, Tryd.ntmps18
  go_wp2_with fail
  refine HF.out.mono ?_; rintro e w1 ⟨rfl, rfl⟩
  go_wp2_with fail
  go_ret
  exact ⟨rfl, rfl⟩

set_option maxHeartbeats 800000 in
set_option maxRecDepth 10000 in
theorem rDrop_some {w : World} {R E B cE k : Nat} {l : List (Nat × SetM)} (h : RefAt w R E B cE k l) (line : Int) (i : Nat) (x : Nat × SetM) (hx : l[i]? = some x)
    (j : Nat) (hj : j < k) (hf : RFindC R line i j w) :
    Calls Tryd.prog 18 #[.pointer (some ⟨R, 0, none⟩), .int .i64 line] w fun r w' => r = .returned (.bool true) ∧ RefAt w' R E B cE k (l.set i (wayUp x j Ent.gone)) ∧ Fr (fun q => q = x.1) w w' := by
  have hm : x ∈ l := List.mem_of_getElem? hx
  have hjl : j < x.2.ways.length := by rw [h.len x hm]; exact hj
  obtain ⟨e, he⟩ : ∃ e, x.2.ways[j]? = some e := ⟨_, List.getElem?_eq_getElem hjl⟩
  have hil : i < l.length := (List.getElem?_eq_some_iff.1 hx).1
  have hn8 := h.n.le
  have hk8 := h.kk.le
  obtain ⟨a0, a1, a2, a3⟩ := h.c0
  have cr := h.rows i x hx
  obtain ⟨b0, b1, b2, b3, b4, b5, b6, b7, b8, b9⟩ := ent_cells (h.ways x hm) he
  have hfr := (h.ways x hm).free
  have HF := Lib.hid hf
  have HX := Lib.hid hx
  have HA := Lib.hid h
  clear hf hx h he
  go_enter Tryd.func18, Tryd.ntmps18
  go_wp2_with fail
  refine HF.out.mono ?_; rintro r w1 ⟨rfl, rfl⟩
  go_wp2_with fail
  go_ret
  refine ⟨rfl, ?_, ?_⟩
  · exact HA.out.setWay HX.out Ent.gone (store_ent_fr j _ _ _ _ _ _ _ _ _ _) (store_ent (HA.out.ways x hm) hjl Ent.gone)
  · exact store_ent_fr j _ _ _ _ _ _ _ _ _ _

set_option maxHeartbeats 800000 in
set_option maxRecDepth 10000 in
theorem rTouch_none {w : World} {R : Nat} (line s idx : Int) (hidx : idx < 0) (hf : RFindC R line s idx w) :
    Calls Tryd.prog 19 #[.pointer (some ⟨R, 0, none⟩), .int .i64 line] w fun e w' => e = .returned (.bool false) ∧ w = w' := by
  have HF := Lib.hid hf; clear hf
  go_enter Tryd.func19, Tryd.ntmps19
  go_wp2_with fail
  refine HF.out.mono ?_; rintro e w1 ⟨rfl, rfl⟩
  go_wp2_with fail
  go_ret
  exact ⟨rfl, rfl⟩

set_option maxHeartbeats 800000 in
set_option maxRecDepth 10000 in
theorem rTouch_some {w : World} {R E B cE k : Nat} {l : List (Nat × SetM)} (h : RefAt w R E B cE k l) (line : Int) (i : Nat) (x : Nat × SetM) (hx : l[i]? = some x)
    (j : Nat) (hj : j < k) (hf : RFindC R line i j w) :
    Calls Tryd.prog 19 #[.pointer (some ⟨R, 0, none⟩), .int .i64 line] w fun r w' => r = .returned (.bool true) ∧ RefAt w' R E B cE k (l.set i (bitsUp x (touchM x.2.bits k j))) ∧ Fr (fun q => q = B) w w' := by
  have hm : x ∈ l := List.mem_of_getElem? hx
  have hil : i < l.length := (List.getElem?_eq_some_iff.1 hx).1
  have hn8 := h.n.le
  have hk8 := h.kk.le
  obtain ⟨a0, a1, a2, a3⟩ := h.c0
  have cb := h.bit hx
  have hfr := h.bits.free
  have HF := Lib.hid hf
  have HX := Lib.hid hx
  have HA := Lib.hid h
  clear hf hx h
  go_enter Tryd.func19, Tryd.ntmps19
  go_wp2_with fail
  refine HF.out.mono ?_; rintro r w1 ⟨rfl, rfl⟩
  go_wp2_with fail
  refine wp_region_still_tail 19 (by kernel_rfl) (by kernel_rfl) ?_
  simp only [List.take_succ_cons, List.take_zero, List.drop_succ_cons, List.drop_zero]
  iterate 17 still_step
  still_call ((rtouch_any x.2.bits j k _ HA.out.kk (by omega) (by omega)).mono fun _ _ h => ⟨h.1, h.2.symm⟩)
  repeat still_step
  refine wpStill_nil ?_
  change wpList _ _ _ _ _ w.drew
  go_wp2
  go_ret
  refine ⟨rfl, ?_, ?_⟩
  · exact HA.out.setBits HX.out _ (touch_range _ _ _ HA.out.kk (by omega) (by omega) (HA.out.b x hm).1 (HA.out.b x hm).2) (Fr.drew (fr_set (S := fun k => k = B) (.inl rfl) (Fr.refl _ _))) (HA.out.bits.set _ _).drew
  · exact Fr.drew (fr_set (S := fun k => k = B) (.inl rfl) (Fr.refl _ _))

def rHas (line : Int) (x : SetM) : Bool := x.ways.any fun e => isRFree e || isR line e
def rRoom (l : List (Nat × SetM)) (line : Int) : Bool := match arrSet l line with
  | none => false
  | some (_, x) => rHas line x.2

set_option maxHeartbeats 800000 in
theorem rRoom_out {w : World} {R : Nat} (line : Int) (h : line < 0 ∨ 31 < line) :
    Calls Tryd.prog 21 #[.pointer (some ⟨R, 0, none⟩), .int .i64 line] w fun e w' => e = .returned (.bool false) ∧ Below w.heap.size w w' := by
  rcases h with h | h
  all_goals
    go_enter Tryd.func21, Tryd.ntmps21
    go_wp2
    go_ret
    exact ⟨rfl, Below.refl _ _⟩

theorem tmod_ix {line : Int} {n i : Nat} (h0 : 0 ≤ line) (hi : i = line.toNat % n) : line.tmod (n : Int) = (i : Int) := by
  obtain ⟨m, rfl⟩ := Int.eq_ofNat_of_zero_le h0
  subst hi
  rw [Int.tmod_eq_emod_of_nonneg (Int.natCast_nonneg m)]
  simp

set_option maxHeartbeats 800000 in
set_option maxRecDepth 10000 in
theorem rRoom_in {w : World} {R E B cE k : Nat} {l : List (Nat × SetM)} (h : RefAt w R E B cE k l) (line : Int) (h0 : 0 ≤ line) (h1 : line ≤ 31) (i : Nat) (hi : i = line.toNat % l.length) (x : Nat × SetM) (hx : l[i]? = some x) :
    Calls Tryd.prog 21 #[.pointer (some ⟨R, 0, none⟩), .int .i64 line] w fun e w' => e = .returned (.bool (rHas line x.2)) ∧ Below w.heap.size w w' := by
  have hm : x ∈ l := List.mem_of_getElem? hx
  have hil : i < l.length := (List.getElem?_eq_some_iff.1 hx).1
  have hn8 := h.n.le
  have hn1 := h.n.pos
  have hk8 := h.kk.le
  have hmod := tmod_ix h0 hi
  have hne2 : ¬ (l.length : Int) = 0 := by omega
  have hne : ((l.length : Int) == 0) = false := by rw [beq_eq_false_iff_ne]; exact hne2
  obtain ⟨a0, a1, a2, a3⟩ := h.c0
  have cr := h.rows i x hx
  have HL := Lib.hid (h.len x hm)
  have HX := Lib.hid hx
  have HA := Lib.hid h
  clear hx h hi
  go_enter Tryd.func21, Tryd.ntmps21
  go_wp2_with fail
  go_quiet (fail)
  have hB0 := below_drewN (Below.refl w.heap.size w) nq
  generalize w.drewN nq = w1 at *
  have HB0 := Lib.hid hB0
  clear hB0
  go_wp2_with fail
  go_loopw [26] (fun v wr => ∃ j : Nat, j ≤ k ∧ v = .int .i64 j ∧ Below w.heap.size w wr ∧ ∀ q, q < j → ∀ e, x.2.ways[q]? = some e → (isRFree e || isR line e) = false) (fun v _ => k - (intOf v).toNat)
  case atStart => exact ⟨0, Nat.zero_le _, rfl, HB0.out, fun j hj => by omega⟩
  case round =>
    obtain ⟨j, hj, rfl, hB, hno⟩ := hrel
    have HN := Lib.hid hno; clear hno
    have HB := Lib.hid hB; clear hB
    by_cases hlt : j < k
    · obtain ⟨e, he⟩ : ∃ e, x.2.ways[j]? = some e := ⟨_, List.getElem?_eq_getElem (by have := HL.out; omega)⟩
      have HE := Lib.hid he; clear he
      obtain ⟨b0, b1, b2, b3, b4, b5, b6, b7, b8, b9⟩ := ent_cells ((HA.out.below HB.out).ways x hm) HE.out
      by_cases hv : e.line < 0
      · have HV := Lib.hid hv
        go_wp2_with fail
        go_ret
        refine ⟨ret_bool ?_, HB.out.alloc HB.out.size _⟩
        have h2 : rHas line x.2 = true := List.any_eq_true.2 ⟨e, List.mem_of_getElem? HE.out, by simp [isRFree, HV.out]⟩
        exact h2.symm
      · have HV := Lib.hid hv
        have hv2 : 0 ≤ e.line := by omega
        clear hv
        by_cases hu : e.line = line
        · have HU := Lib.hid hu
          go_wp2_with fail
          go_ret
          refine ⟨ret_bool ?_, HB.out.alloc HB.out.size _⟩
          have h2 : rHas line x.2 = true := List.any_eq_true.2 ⟨e, List.mem_of_getElem? HE.out, by simp [isR, HU.out]⟩
          exact h2.symm
        · have HU := Lib.hid hu
          have hu2 : (e.line == line) = false := by simpa using hu
          clear hu
          go_wp2_with fail
          go_roundw
          case rel =>
            refine ⟨j + 1, by omega, by go_num, HB.out.alloc HB.out.size _, ?_⟩
            intro q hq y hy
            rcases Nat.lt_succ_iff_lt_or_eq.1 hq with h | h
            · exact HN.out q h y hy
            · subst h
              have := HE.out
              rw [this] at hy
              cases hy
              simp [isRFree, isR, HU.out, hv2]
          case measure => simp [intOf]; omega
    · obtain rfl : j = k := by omega
      go_wp2_with fail
      go_ret
      refine ⟨ret_bool ?_, HB.out⟩
      have h2 : rHas line x.2 = false := by
        rw [← Bool.not_eq_true]
        intro hh
        obtain ⟨e, he, hp⟩ := List.any_eq_true.1 hh
        obtain ⟨q, hq⟩ := List.mem_iff_getElem?.1 he
        have := HN.out q (by have := (List.getElem?_eq_some_iff.1 hq).1; have := HL.out; omega) e hq
        rw [this] at hp
        cases hp
      exact h2.symm

theorem ix_of {line : Int} {n i : Nat} (h0 : 0 ≤ line) (h1 : line ≤ 31) (hi : setIx line n = i) : i = line.toNat % n := by
  unfold setIx at hi
  rw [if_pos ⟨h0, h1⟩] at hi
  obtain ⟨m, rfl⟩ := Int.eq_ofNat_of_zero_le h0
  simp at hi ⊢
  omega
theorem out_of {l : List (Nat × SetM)} {line : Int} (hn : pow8 l.length) (hs : arrSet l line = none) : line < 0 ∨ 31 < line := by
  unfold arrSet at hs
  split at hs
  · have := Nat.mod_lt line.toNat hn.pos
    simp at hs; omega
  · omega

theorem rRoom_any {w : World} {R E B cE k : Nat} {l : List (Nat × SetM)} (h : RefAt w R E B cE k l) (line : Int) :
    Calls Tryd.prog 21 #[.pointer (some ⟨R, 0, none⟩), .int .i64 line] w fun e w' => e = .returned (.bool (rRoom l line)) ∧ Below w.heap.size w w' := by
  unfold rRoom
  cases hs : arrSet l line with
  | none => exact rRoom_out line (out_of h.n hs)
  | some p =>
    obtain ⟨i, x⟩ := p
    obtain ⟨h0, h1, hi, hx⟩ := arrSet_some hs
    exact rRoom_in h line h0 h1 i (ix_of h0 h1 hi) x hx
end Go.Proofs.YtjmlficbnljiaaaDoor
