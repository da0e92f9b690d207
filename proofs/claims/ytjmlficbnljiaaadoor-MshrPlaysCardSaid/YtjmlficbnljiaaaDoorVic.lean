/- Slices of numbers; the array's Victim. -/
import Derived.Test.YtjmlficbnljiaaaDoorArrQ
namespace Go.Proofs.YtjmlficbnljiaaaDoor
open Go.RowKit

/-- A slice of numbers: its words, and its cells. -/
structure IntsAt (w : World) (a : Option Addr) (b o : Nat) (l : List Int) : Prop where
  addr : l ≠ [] → a = some ⟨b, o, none⟩
  cell : ∀ (i : Nat) (x : Int), l[i]? = some x → w.cell? ⟨b, o + i, none⟩ = some (.int .i64 x)
  lt : l ≠ [] → b < w.heap.size
theorem IntsAt.below {w w' : World} {a : Option Addr} {b o B : Nat} {l : List Int} (h : IntsAt w a b o l) (hb : Below B w w') (hB : w.heap.size ≤ B) : IntsAt w' a b o l :=
  ⟨h.addr, fun i x hx => cell_below hb (h.cell i x hx) (Nat.lt_of_lt_of_le (h.lt (by rintro rfl; simp at hx)) hB), fun hn => Nat.lt_of_lt_of_le (h.lt hn) hb.size⟩

def hasInt (v : Int) (l : List Int) : Bool := decide (0 ≤ idxOf (fun x => v == x) l)
theorem hasInt_iff (v : Int) (l : List Int) : hasInt v l = true ↔ v ∈ l := by
  unfold hasInt
  rw [decide_eq_true_iff]
  constructor
  · intro h
    obtain ⟨x, hx, hp⟩ := idxOf_pos h
    have : v = x := by simpa using hp
    exact this ▸ List.mem_of_getElem? hx
  · intro h
    rcases (show 0 ≤ idxOf (fun x => v == x) l ∨ idxOf (fun x => v == x) l < 0 by omega) with hn | hn
    · exact hn
    · have := idxOf_neg hn v h; simp at this

set_option maxHeartbeats 800000 in
set_option maxRecDepth 10000 in
theorem index_ints (w : World) (a : Option Addr) (b o c : Nat) (l : List Int) (v : Int) (h : IntsAt w a b o l) (hl : l.length ≤ 1000) :
    Calls Tryd.prog 71 #[.slice a l.length c, .int .i64 v] w fun e w' => e = .returned (.int .i64 (idxOf (fun x => v == x) l)) ∧ w = w' := by
  by_cases hn : l = []
  · subst hn
    go_enter Tryd.func71, Tryd.ntmps71
    go_wp2
    refine wp_loop_rounds 1 ?_
    rw [rounds_succ]
    go_wp2
    go_ret
    exact ⟨ret_int (by rfl), rfl⟩
  · obtain rfl := h.addr hn
    have HC := Lib.hid h.cell
    clear h hn
    go_enter Tryd.func71, Tryd.ntmps71
    go_wp2
    go_loop [8] (fun i => ∃ k : Nat, k ≤ l.length ∧ i = .int .i64 k ∧ ∀ j, j < k → ∀ x, l[j]? = some x → (v == x) = false) (fun i => l.length - (intOf i).toNat)
    case atStart => exact ⟨0, Nat.zero_le _, rfl, fun j hj => by omega⟩
    case round =>
      obtain ⟨k, hk, rfl, hno⟩ := hrel
      have HN := Lib.hid hno; clear hno
      by_cases hlt : k < l.length
      · obtain ⟨x, hx⟩ : ∃ x, l[k]? = some x := ⟨l[k], by simp [hlt]⟩
        have hc := HC.out k x hx
        have HX := Lib.hid hx; clear hx
        by_cases hv : (v == x) = true
        · have HV := Lib.hid hv
          go_wp2
          go_ret
          exact ⟨ret_int (idxOf_found HX.out HV.out HN.out).symm, rfl⟩
        · have hv' : (v == x) = false := by simpa using hv
          have HV := Lib.hid hv'
          clear hv
          go_wp2
          go_round
          case rel =>
            refine ⟨k + 1, by omega, by go_num, ?_⟩
            intro j hj y hy
            rcases Nat.lt_succ_iff_lt_or_eq.1 hj with h | h
            · exact HN.out j h y hy
            · subst h
              have := HX.out
              rw [this] at hy
              cases hy
              exact HV.out
          case measure => simp [intOf]; omega
      · obtain rfl : k = l.length := by omega
        go_wp2
        go_ret
        exact ⟨ret_int (idxOf_none HN.out).symm, rfl⟩

set_option maxHeartbeats 800000 in
theorem contains_ints (w : World) (a : Option Addr) (b o c : Nat) (l : List Int) (v : Int) (h : IntsAt w a b o l) (hl : l.length ≤ 1000) :
    Calls Tryd.prog 52 #[.slice a l.length c, .int .i64 v] w fun e w' => e = .returned (.bool (hasInt v l)) ∧ w = w' := by
  have H := Lib.hid (index_ints w a b o c l v h hl)
  clear h
  go_enter Tryd.func52, Tryd.ntmps52
  go_wp2_with fail
  refine H.out.mono ?_; rintro e w' ⟨rfl, rfl⟩
  go_wp2_with fail
  go_ret
  exact ⟨rfl, rfl⟩

/-- Which line goes, of a full set. -/
def victimOf (x : SetM) (pins : List Int) : Int :=
  if hasInt ((x.ways[(victimM x.bits x.ways.length).toNat]?).getD Ent.zero).line pins = false then ((x.ways[(victimM x.bits x.ways.length).toNat]?).getD Ent.zero).line
  else match x.ways.find? (fun e => !hasInt e.line pins) with
    | some e => e.line
    | none => -1

set_option maxHeartbeats 800000 in
set_option maxRecDepth 10000 in
theorem Victim_none {w : World} {A : Nat} (line idx : Int) (a : Option Addr) (n c : Nat) (p : Option Addr) (hp : p = none ∨ 0 ≤ idx) (hf : FindC A line idx p w) :
    Calls Tryd.prog 22 #[.pointer (some ⟨A, 0, none⟩), .int .i64 line, .slice a n c] w fun e w' => e = .returned (.int .i64 (-1)) ∧ Below w.heap.size w w' := by
  have HF := Lib.hid hf; clear hf
  rcases p with _ | p
  · clear hp
    go_enter Tryd.func22, Tryd.ntmps22
    go_wp2_with fail
    refine HF.out.mono ?_; rintro e w1 ⟨rfl, hB⟩
    go_wp2_with fail
    go_ret
    exact ⟨rfl, hB⟩
  · have hp' : 0 ≤ idx := by simpa using hp
    clear hp
    go_enter Tryd.func22, Tryd.ntmps22
    go_wp2_with fail
    refine HF.out.mono ?_; rintro e w1 ⟨rfl, hB⟩
    go_wp2_with fail
    go_ret
    exact ⟨rfl, hB⟩

set_option maxHeartbeats 800000 in
set_option maxRecDepth 10000 in
theorem Victim_free {w : World} {A S : Nat} {l : List (Nat × SetM)} (h : ArrAt w A S l) (line idx : Int) (a : Option Addr) (n c : Nat) (i : Nat) (x : Nat × SetM) (hx : l[i]? = some x) (hk : x.2.ways.length ≤ 8)
    (hidx : idx < 0) (hfr : 0 ≤ idxOf isFree x.2.ways) (hf : FindC A line idx (some ⟨S, i * 2, none⟩) w) :
    Calls Tryd.prog 22 #[.pointer (some ⟨A, 0, none⟩), .int .i64 line, .slice a n c] w fun r w' => r = .returned (.int .i64 (-1)) ∧ Below w.heap.size w w' := by
  have HF := Lib.hid hf; clear hf
  have HX := Lib.hid hx; clear hx
  have HA := Lib.hid h; clear h
  have hd : decide (0 ≤ idx) = false := by simp; omega
  go_enter Tryd.func22, Tryd.ntmps22
  go_wp2_with fail
  refine HF.out.mono ?_; rintro r w1 ⟨rfl, hB⟩
  have HB := Lib.hid hB; clear hB
  go_wp2_with fail
  refine (free_any (HA.out.below HB.out) i x HX.out hk).mono ?_; rintro r w2 ⟨rfl, hB2⟩
  go_wp2_with fail
  go_ret
  exact ⟨rfl, HB.out.trans (hB2.mono HB.out.size)⟩

set_option maxHeartbeats 1600000 in
set_option maxRecDepth 10000 in
theorem Victim_full {w : World} {A S : Nat} {l : List (Nat × SetM)} (h : ArrAt w A S l) (line idx : Int) (a : Option Addr) (b o c : Nat) (pins : List Int) (hp : IntsAt w a b o pins) (hpl : pins.length ≤ 1000)
    (i : Nat) (x : Nat × SetM) (hx : l[i]? = some x) (hk : pow8 x.2.ways.length) (hb0 : 0 ≤ x.2.bits) (hb1 : x.2.bits < 256)
    (hidx : idx < 0) (hfr : idxOf isFree x.2.ways < 0) (hf : FindC A line idx (some ⟨S, i * 2, none⟩) w) :
    Calls Tryd.prog 22 #[.pointer (some ⟨A, 0, none⟩), .int .i64 line, .slice a pins.length c] w fun r w' => r = .returned (.int .i64 (victimOf x.2 pins)) ∧ Below w.heap.size w w' := by
  have hm : x ∈ l := List.mem_of_getElem? hx
  have hv := victim_range x.2.bits x.2.ways.length hk hb0 hb1
  obtain ⟨v, hvv⟩ := Int.eq_ofNat_of_zero_le hv.1
  rw [hvv] at hv
  obtain ⟨e0, he0⟩ : ∃ e, x.2.ways[v]? = some e := ⟨_, List.getElem?_eq_getElem (by omega)⟩
  have hvo : victimOf x.2 pins = if hasInt e0.line pins = false then e0.line else match x.2.ways.find? (fun e => !hasInt e.line pins) with | some e => e.line | none => -1 := by
    simp [victimOf, hvv, he0]
  have HVO := Lib.hid hvo; clear hvo
  have HV := Lib.hid hvv; clear hvv
  have hvk : v < x.2.ways.length := by omega
  have HE := Lib.hid he0; clear he0 hv
  have HF := Lib.hid hf; clear hf
  have HX := Lib.hid hx; clear hx
  have HA := Lib.hid h; clear h
  have HP := Lib.hid hp; clear hp
  have HK := Lib.hid hk
  have hk8 := hk.le
  clear hk
  have hd : decide (0 ≤ idx) = false := by simp; omega
  have hd2 : decide (0 ≤ idxOf isFree x.2.ways) = false := by simp; omega
  go_enter Tryd.func22, Tryd.ntmps22
  go_wp2_with fail
  refine HF.out.mono ?_; rintro r w1 ⟨rfl, hB⟩
  have HB := Lib.hid hB; clear hB
  go_wp2_with fail
  refine (free_any (HA.out.below HB.out) i x HX.out hk8).mono ?_; rintro r w2 ⟨rfl, hB2⟩
  have HB2 := Lib.hid (HB.out.trans (hB2.mono HB.out.size)); clear hB2
  have hA := HA.out.below HB2.out
  have cb := hA.bits HX.out
  have cs := hA.slice HX.out
  obtain ⟨b0, _⟩ := ent_cells (hA.ways x hm) HE.out
  clear hA
  go_wp2_with fail
  go_quiet ((refine Calls.quiet_of_same ((victim_any x.2.bits x.2.ways.length _ HK.out (by omega) (by omega)).mono fun _ _ h => ⟨by rw [h.1, HV.out], h.2.symm⟩)))
  have hB3 := below_drewN HB2.out nq
  generalize w2.drewN nq = w3 at *
  clear cb cs b0 HB2 HB
  have HB := Lib.hid hB3; clear hB3
  go_wp2_with fail
  refine (contains_ints _ a b o c pins e0.line (HP.out.below HB.out (Nat.le_refl _)) hpl).mono ?_; rintro r w4 ⟨rfl, rfl⟩
  by_cases hin : hasInt e0.line pins = true
  · have hin' := hin
    have HVO2 : victimOf x.2 pins = match x.2.ways.find? (fun e => !hasInt e.line pins) with | some e => e.line | none => -1 := by rw [HVO.out, if_neg (by simp [hin])]
    have HVF := Lib.hid HVO2; clear HVO2 HVO
    rw [hin]
    clear hin hin'
    have cs := (HA.out.below HB.out).slice HX.out
    go_wp2_with fail
    go_loopw [56] (fun i wr => ∃ k : Nat, k ≤ x.2.ways.length ∧ i = .int .i64 k ∧ Below w.heap.size w wr ∧ ∀ j, j < k → ∀ e, x.2.ways[j]? = some e → hasInt e.line pins = true) (fun i _ => x.2.ways.length - (intOf i).toNat)
    case atStart => exact ⟨0, Nat.zero_le _, rfl, HB.out, fun j hj => by omega⟩
    case round =>
      obtain ⟨k, hkk, rfl, hBr, hno⟩ := hrel
      have HN := Lib.hid hno; clear hno
      have HBr := Lib.hid hBr; clear hBr
      by_cases hlt : k < x.2.ways.length
      · obtain ⟨e, he⟩ : ∃ e, x.2.ways[k]? = some e := ⟨_, List.getElem?_eq_getElem hlt⟩
        have HEk := Lib.hid he; clear he
        obtain ⟨c0, c1, c2, c3, c4, c5, c6, c7, c8, c9⟩ := ent_cells ((HA.out.below HBr.out).ways x hm) HEk.out
        have HB0 := Lib.hid (HBr.out.trans ((entObj_below wr e).mono HBr.out.size))
        go_wp2_with fail
        refine (contains_ints _ a b o c pins e.line (HP.out.below HB0.out (Nat.le_refl _)) hpl).mono ?_; rintro r w5 ⟨rfl, rfl⟩
        by_cases hi2 : hasInt e.line pins = true
        · have HI2 := Lib.hid hi2
          rw [hi2]
          clear hi2
          go_wp2_with fail
          go_roundw
          case rel =>
            refine ⟨k + 1, by omega, by go_num, HB0.out, ?_⟩
            intro j hj y hy
            rcases Nat.lt_succ_iff_lt_or_eq.1 hj with h | h
            · exact HN.out j h y hy
            · subst h
              have := HEk.out
              rw [this] at hy
              cases hy
              exact HI2.out
          case measure => simp [intOf]; omega
        · have hi3 : hasInt e.line pins = false := by simpa using hi2
          have HI3 := Lib.hid hi3
          rw [hi3]
          clear hi2 hi3
          go_wp2_with fail
          go_ret
          refine ⟨ret_int ?_, HB0.out⟩
          rw [HVF.out]
          have hfi : x.2.ways.find? (fun e => !hasInt e.line pins) = some e := by
            rw [List.find?_eq_some_iff_getElem]
            have hek := HEk.out
            obtain ⟨hl, rfl⟩ := List.getElem?_eq_some_iff.1 hek
            exact ⟨by simp [HI3.out], k, hl, rfl, fun j hj => by simp [HN.out j hj _ (List.getElem?_eq_getElem (by omega))]⟩
          rw [hfi]
      · obtain rfl : k = x.2.ways.length := by omega
        go_wp2_with fail
        go_ret
        refine ⟨ret_int ?_, HBr.out⟩
        rw [HVF.out]
        have : x.2.ways.find? (fun e => !hasInt e.line pins) = none := by
          rw [List.find?_eq_none]
          intro e he
          obtain ⟨j, hj, rfl⟩ := List.getElem_of_mem he
          simp [HN.out j hj _ (List.getElem?_eq_getElem hj)]
        rw [this]
  · have hin' : hasInt e0.line pins = false := by simpa using hin
    have HVO2 : victimOf x.2 pins = e0.line := by rw [HVO.out, if_pos hin']
    have HVF := Lib.hid HVO2; clear HVO2 HVO hin
    rw [hin']
    go_wp2_with fail
    go_ret
    exact ⟨ret_int HVF.out.symm, HB.out⟩
end Go.Proofs.YtjmlficbnljiaaaDoor
