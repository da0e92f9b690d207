/- The document's own array: Put. -/
import Derived.Test.YtjmlficbnljiaaaDoorRefU
namespace Go.Proofs.YtjmlficbnljiaaaDoor
open Go.RowKit

set_option maxHeartbeats 1600000 in
set_option maxRecDepth 10000 in
theorem rPut_bad {w : World} {R : Nat} (e : Ent) (hb : e.line < 0 ∨ 31 < e.line ∨ e.Bad) :
    Calls Tryd.prog 15 #[.pointer (some ⟨R, 0, none⟩), e.val] w fun r w' => r = .returned (.int .i64 1) ∧ Below w.heap.size w w' := by
  obtain ⟨c0, c1, c2, c3, _⟩ := ent_cells0 (rEntObj_new w e)
  unfold Ent.val
  unfold Ent.Bad at hb
  rcases hb with hb | hb | hb | hb | hb | hb | hb | hb
  all_goals
    go_enter Tryd.func15, Tryd.ntmps15
    go_wp2_with fail
    all_goals
      go_ret
      exact ⟨rfl, (Below.refl _ _).alloc (Nat.le_refl _) _⟩

set_option maxHeartbeats 1600000 in
set_option maxRecDepth 10000 in
theorem rPut_found {w : World} {R E B cE k : Nat} {l : List (Nat × SetM)} (h : RefAt w R E B cE k l) (e : Ent) (h0 : 0 ≤ e.line) (h1 : e.line ≤ 31) (hb : ¬ e.Bad) (i : Nat) (x : Nat × SetM) (hx : l[i]? = some x)
    (j : Nat) (hj : j < k) (hf : RFindC R e.line i j (w.alloc (rEntObj e))) :
    Calls Tryd.prog 15 #[.pointer (some ⟨R, 0, none⟩), e.val] w fun r w' => r = .returned (.int .i64 0) ∧ RefAt w' R E B cE k (l.set i (wayUp x j e)) ∧ Fr (fun q => q = x.1) w w' := by
  have hm : x ∈ l := List.mem_of_getElem? hx
  have hjl : j < x.2.ways.length := by rw [h.len x hm]; exact hj
  obtain ⟨e0, he⟩ : ∃ e, x.2.ways[j]? = some e := ⟨_, List.getElem?_eq_getElem hjl⟩
  have hil : i < l.length := (List.getElem?_eq_some_iff.1 hx).1
  have hn8 := h.n.le
  have hk8 := h.kk.le
  have HF := Lib.hid hf
  have HX := Lib.hid hx
  have HE := Lib.hid he
  have HA := Lib.hid (h.below (rEntObj_below w e))
  have HE1 := Lib.hid (rEntObj_new w e)
  have HW := Lib.hid (rEntObj_below w e)
  unfold Ent.Bad at hb
  have g1 : 1 ≤ e.state := by omega
  have g2 : e.state ≤ 4 := by omega
  have g3 : 0 ≤ e.mode := by omega
  have g4 : e.mode ≤ 3 := by omega
  have g5 : 0 ≤ e.epoch := by omega
  have g6 : e.epoch ≤ 255 := by omega
  clear hf hx h he hb
  unfold Ent.val
  go_enter Tryd.func15, Tryd.ntmps15
  go_wp2_with fail
  refine HF.out.mono ?_; rintro r w1 ⟨rfl, hw⟩
  have hA := HA.out
  have hE1 := HE1.out
  have hW := HW.out
  rw [hw] at hA hE1 hW
  clear HA HE1 HW HF hw
  have HA := Lib.hid hA
  have HW := Lib.hid hW
  obtain ⟨a0, a1, a2, a3⟩ := hA.c0
  have cr := hA.rows i x HX.out
  obtain ⟨b0, b1, b2, b3, b4, b5, b6, b7, b8, b9⟩ := ent_cells (hA.ways x hm) HE.out
  obtain ⟨c0, c1, c2, c3, c4, c5, c6, c7, c8, c9⟩ := ent_cells0 hE1
  have hfr := (hA.ways x hm).free
  clear hA hE1 hW
  go_wp2_with fail
  go_still_tail 10, (by kernel_rfl)
  change wpList _ _ _ _ _ w1.drew
  go_wp2
  go_ret
  refine ⟨rfl, ?_, ?_⟩
  · exact HA.out.setWay HX.out e (Fr.drew (store_ent_fr j _ _ _ _ _ _ _ _ _ _)) (Blk.drew (store_ent (HA.out.ways x hm) hjl e))
  · exact Fr.drew ((Fr.of_below HW.out).then (store_ent_fr j _ _ _ _ _ _ _ _ _ _))

/-- The lowest free way among those from j on, as the loop knows it. -/
def FreeFrom (x : List Ent) (j : Nat) (v : Int) : Prop :=
  (v = -1 ∧ ∀ q, j ≤ q → ∀ y, x[q]? = some y → isRFree y = false) ∨ (∃ m : Nat, v = m ∧ j ≤ m ∧ (∃ y, x[m]? = some y ∧ isRFree y = true) ∧ ∀ q, j ≤ q → q < m → ∀ y, x[q]? = some y → isRFree y = false)
theorem FreeFrom.end {x : List Ent} {v : Int} (h : FreeFrom x 0 v) : v = idxOf isRFree x := by
  rcases h with ⟨rfl, h⟩ | ⟨m, rfl, -, ⟨y, hy, hp⟩, h⟩
  · exact (idxOf_none fun q hq y hy => h q (Nat.zero_le _) y hy).symm
  · exact (idxOf_found hy hp fun q hq y hy => h q (Nat.zero_le _) hq y hy).symm
theorem FreeFrom.hit {x : List Ent} {j : Nat} {y : Ent} (hy : x[j]? = some y) (hp : isRFree y = true) : FreeFrom x j j :=
  .inr ⟨j, rfl, Nat.le_refl _, ⟨y, hy, hp⟩, fun q h1 h2 => by omega⟩
theorem FreeFrom.miss {x : List Ent} {j : Nat} {v : Int} (h : FreeFrom x (j + 1) v) {y : Ent} (hy : x[j]? = some y) (hp : isRFree y = false) : FreeFrom x j v := by
  have aux : ∀ q, j ≤ q → q = j ∨ j + 1 ≤ q := fun q hq => by omega
  rcases h with ⟨rfl, h⟩ | ⟨m, rfl, hm, hy2, h⟩
  · refine .inl ⟨rfl, fun q hq z hz => ?_⟩
    rcases aux q hq with rfl | h2
    · rw [hy] at hz; cases hz; exact hp
    · exact h q h2 z hz
  · refine .inr ⟨m, rfl, by omega, hy2, fun q hq h3 z hz => ?_⟩
    rcases aux q hq with rfl | h2
    · rw [hy] at hz; cases hz; exact hp
    · exact h q h2 h3 z hz

set_option maxHeartbeats 1600000 in
set_option maxRecDepth 10000 in
theorem rPut_free {w : World} {R E B cE k : Nat} {l : List (Nat × SetM)} (h : RefAt w R E B cE k l) (e : Ent) (h0 : 0 ≤ e.line) (h1 : e.line ≤ 31) (hb : ¬ e.Bad) (i : Nat) (x : Nat × SetM) (hx : l[i]? = some x)
    (idx : Int) (hidx : idx = -1) (hf : RFindC R e.line i idx (w.alloc (rEntObj e))) :
    Calls Tryd.prog 15 #[.pointer (some ⟨R, 0, none⟩), e.val] w fun r w' =>
      (idxOf isRFree x.2.ways < 0 ∧ r = .returned (.int .i64 6) ∧ RefAt w' R E B cE k l ∧ Fr (fun q => q = x.1) w w')
      ∨ (0 ≤ idxOf isRFree x.2.ways ∧ r = .returned (.int .i64 0) ∧ RefAt w' R E B cE k (l.set i (wayUp x (idxOf isRFree x.2.ways).toNat e)) ∧ Fr (fun q => q = x.1) w w') := by
  have hm : x ∈ l := List.mem_of_getElem? hx
  have hil : i < l.length := (List.getElem?_eq_some_iff.1 hx).1
  have hn8 := h.n.le
  have hk8 := h.kk.le
  have HL := Lib.hid (h.len x hm)
  have HF := Lib.hid hf
  have HX := Lib.hid hx
  have HA := Lib.hid (h.below (rEntObj_below w e))
  have HE1 := Lib.hid (rEntObj_new w e)
  have HW := Lib.hid (rEntObj_below w e)
  unfold Ent.Bad at hb
  have g1 : 1 ≤ e.state := by omega
  have g2 : e.state ≤ 4 := by omega
  have g3 : 0 ≤ e.mode := by omega
  have g4 : e.mode ≤ 3 := by omega
  have g5 : 0 ≤ e.epoch := by omega
  have g6 : e.epoch ≤ 255 := by omega
  clear hf hx h hb
  unfold Ent.val
  go_enter Tryd.func15, Tryd.ntmps15
  go_wp2_with fail
  refine HF.out.mono ?_; rintro r w1 ⟨rfl, hw⟩
  have hA := HA.out
  have hE1 := HE1.out
  have hW := HW.out
  rw [hw] at hA hE1 hW
  clear HA HE1 HW HF hw
  have HA := Lib.hid hA
  have HW := Lib.hid hW
  obtain ⟨a0, a1, a2, a3⟩ := hA.c0
  have cr := hA.rows i x HX.out
  obtain ⟨c0, c1, c2, c3, c4, c5, c6, c7, c8, c9⟩ := ent_cells0 hE1
  have hfr := (hA.ways x hm).free
  clear hA hE1 hW
  subst hidx
  go_wp2_with fail
  go_loop [6, 7] (fun v u => ∃ j : Nat, j ≤ k ∧ u = .int .i64 ((j : Int) - 1) ∧ ∃ z, v = .int .i64 z ∧ FreeFrom x.2.ways j z) (fun _ u => ((intOf u) + 1).toNat)
  case atStart =>
    refine ⟨k, Nat.le_refl _, by go_num, -1, rfl, .inl ⟨rfl, fun q hq y hy => ?_⟩⟩
    have := (List.getElem?_eq_some_iff.1 hy).1
    have := HL.out
    omega
  case round =>
    obtain ⟨j, hj, rfl, z, rfl, hz⟩ := hrel
    have HZ := Lib.hid hz; clear hz
    rcases j with _ | m
    · have he := HZ.out.end
      by_cases hn : z < 0
      · have HN := Lib.hid (show idxOf isRFree x.2.ways < 0 by omega)
        clear he
        go_wp2_with fail
        go_ret
        exact .inl ⟨HN.out, rfl, HA.out, Fr.of_below HW.out⟩
      · have hz0 : 0 ≤ z := by omega
        obtain ⟨f, rfl⟩ := Int.eq_ofNat_of_zero_le hz0
        have hfl : f < x.2.ways.length := by have := idxOf_lt isRFree x.2.ways; omega
        have hfk : f < k := by have := HL.out; omega
        obtain ⟨e0, he0⟩ : ∃ e, x.2.ways[f]? = some e := ⟨_, List.getElem?_eq_getElem hfl⟩
        obtain ⟨b0, b1, b2, b3, b4, b5, b6, b7, b8, b9⟩ := ent_cells (HA.out.ways x hm) he0
        have HEq := Lib.hid he
        clear he hn hz0 he0
        go_wp2_with fail
        go_still_tail 10, (by kernel_rfl)
        change wpList _ _ _ _ _ w1.drew
        go_wp2
        go_ret
        have e1 := HEq.out
        rw [← e1]
        refine .inr ⟨by omega, rfl, ?_, ?_⟩
        · exact HA.out.setWay HX.out e (Fr.drew (store_ent_fr f _ _ _ _ _ _ _ _ _ _)) (Blk.drew (store_ent (HA.out.ways x hm) hfl e))
        · exact Fr.drew ((Fr.of_below HW.out).then (store_ent_fr f _ _ _ _ _ _ _ _ _ _))
    · rw [show (((m + 1 : Nat) : Int) - 1) = (m : Int) by omega]
      have hml : m < x.2.ways.length := by have := HL.out; omega
      obtain ⟨y, hy⟩ : ∃ e, x.2.ways[m]? = some e := ⟨_, List.getElem?_eq_getElem hml⟩
      have HY := Lib.hid hy; clear hy
      have b0 := (ent_cells (HA.out.ways x hm) HY.out).1
      have hmk : m < k := by omega
      clear hml
      by_cases hv : y.line < 0
      · have HV := Lib.hid hv
        go_wp2_with fail
        go_round
        case rel => exact ⟨m, by omega, by go_num, m, rfl, .hit HY.out (by simp [isRFree, HV.out])⟩
        case measure => first | (simp [intOf]; done) | (simp [intOf]; omega)
      · have HV := Lib.hid hv
        have hv2 : 0 ≤ y.line := by omega
        clear hv
        go_wp2_with fail
        go_round
        case rel => exact ⟨m, by omega, by go_num, z, rfl, HZ.out.miss HY.out (by simp [isRFree, hv2])⟩
        case measure => first | (simp [intOf]; done) | (simp [intOf]; omega)
end Go.Proofs.YtjmlficbnljiaaaDoor
