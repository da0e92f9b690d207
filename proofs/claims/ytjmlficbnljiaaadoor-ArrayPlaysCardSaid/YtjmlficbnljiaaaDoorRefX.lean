/- The document's own array: Victim; each call by one contract over its model. -/
import Derived.Test.YtjmlficbnljiaaaDoorRefV
namespace Go.Proofs.YtjmlficbnljiaaaDoor
open Go.RowKit

def rVictim (l : List (Nat × SetM)) (line : Int) (pins : List Int) : Int := match arrSet l line with
  | none => -1
  | some (_, x) => if rHas line x.2 = true then -1 else victimOf x.2 pins

set_option maxHeartbeats 800000 in
set_option maxRecDepth 10000 in
theorem rVictim_out {w : World} {R : Nat} (line : Int) (a : Option Addr) (n c : Nat) (h : line < 0 ∨ 31 < line) :
    Calls Tryd.prog 23 #[.pointer (some ⟨R, 0, none⟩), .int .i64 line, .slice a n c] w fun e w' => e = .returned (.int .i64 (-1)) ∧ Below w.heap.size w w' := by
  rcases h with h | h
  all_goals
    go_enter Tryd.func23, Tryd.ntmps23
    go_wp2
    go_ret
    exact ⟨rfl, Below.refl _ _⟩

set_option maxHeartbeats 800000 in
set_option maxRecDepth 10000 in
theorem rVictim_room {w : World} {R E B cE k : Nat} {l : List (Nat × SetM)} (h : RefAt w R E B cE k l) (line : Int) (h0 : 0 ≤ line) (h1 : line ≤ 31) (a : Option Addr) (n c : Nat) (hr : rRoom l line = true) :
    Calls Tryd.prog 23 #[.pointer (some ⟨R, 0, none⟩), .int .i64 line, .slice a n c] w fun e w' => e = .returned (.int .i64 (-1)) ∧ Below w.heap.size w w' := by
  have HF := Lib.hid (rRoom_any h line)
  rw [hr] at HF
  clear hr h
  go_enter Tryd.func23, Tryd.ntmps23
  go_wp2_with fail
  refine HF.out.mono ?_; rintro e w1 ⟨rfl, hB⟩
  go_wp2_with fail
  go_ret
  exact ⟨rfl, hB⟩

set_option maxHeartbeats 1600000 in
set_option maxRecDepth 10000 in
theorem rVictim_full {w : World} {R E B cE k : Nat} {l : List (Nat × SetM)} (h : RefAt w R E B cE k l) (line : Int) (h0 : 0 ≤ line) (h1 : line ≤ 31) (a : Option Addr) (b o c : Nat) (pins : List Int) (hp : IntsAt w a b o pins) (hpl : pins.length ≤ 1000)
    (i : Nat) (x : Nat × SetM) (hi : i = line.toNat % l.length) (hx : l[i]? = some x) (hr : rRoom l line = false) :
    Calls Tryd.prog 23 #[.pointer (some ⟨R, 0, none⟩), .int .i64 line, .slice a pins.length c] w fun e w' => e = .returned (.int .i64 (victimOf x.2 pins)) ∧ Below w.heap.size w w' := by
  have hm : x ∈ l := List.mem_of_getElem? hx
  have hil : i < l.length := (List.getElem?_eq_some_iff.1 hx).1
  have hn8 := h.n.le
  have hn1 := h.n.pos
  have hk8 := h.kk.le
  have hmod := tmod_ix h0 hi
  have hne2 : ¬ (l.length : Int) = 0 := by omega
  have hne : ((l.length : Int) == 0) = false := by rw [beq_eq_false_iff_ne]; exact hne2
  have hb := h.b x hm
  have hv := victim_range x.2.bits k h.kk hb.1 hb.2
  obtain ⟨v, hvv⟩ := Int.eq_ofNat_of_zero_le hv.1
  rw [hvv] at hv
  have hlen := h.len x hm
  obtain ⟨e0, he0⟩ : ∃ e, x.2.ways[v]? = some e := ⟨_, List.getElem?_eq_getElem (by omega)⟩
  have hvo : victimOf x.2 pins = if hasInt e0.line pins = false then e0.line else match x.2.ways.find? (fun e => !hasInt e.line pins) with | some e => e.line | none => -1 := by
    simp [victimOf, hlen, hvv, he0]
    rfl
  have HVO := Lib.hid hvo; clear hvo
  have HV := Lib.hid hvv; clear hvv
  have hvk : v < k := by omega
  have HL := Lib.hid hlen; clear hlen
  have HE := Lib.hid he0; clear he0 hv
  have HF := Lib.hid (rRoom_any h line)
  rw [hr] at HF
  have HX := Lib.hid hx
  have HA := Lib.hid h
  have HP := Lib.hid hp
  clear hr h hx hp hi hb
  go_enter Tryd.func23, Tryd.ntmps23
  go_wp2_with fail
  refine HF.out.mono ?_; rintro e w1 ⟨rfl, hB⟩
  have HB := Lib.hid hB
  have hA := HA.out.below hB
  obtain ⟨a0, a1, a2, a3⟩ := hA.c0
  have cb := hA.bit HX.out
  clear hA hB
  go_wp2_with fail
  go_quiet ((refine Calls.quiet_of_same ((rvictim_any x.2.bits k _ HA.out.kk (HA.out.b x hm).1 (HA.out.b x hm).2).mono fun _ _ h => ⟨by rw [h.1, HV.out], h.2.symm⟩)))
  have hB3 := below_drewN HB.out nq
  generalize w1.drewN nq = w3 at *
  clear cb a0 a1 a2 a3 HB
  have HB := Lib.hid hB3; clear hB3
  have hA := HA.out.below HB.out
  obtain ⟨a0, a1, a2, a3⟩ := hA.c0
  have cr := hA.rows i x HX.out
  have b0 := (ent_cells (hA.ways x hm) HE.out).1
  have HA3 := Lib.hid hA
  clear hA
  go_wp2_with fail
  refine (among_ints _ a b o c pins e0.line (HP.out.below HB.out (Nat.le_refl _)) hpl).mono ?_; rintro r w4 ⟨rfl, rfl⟩
  by_cases hin : hasInt e0.line pins = true
  · have HVO2 : victimOf x.2 pins = match x.2.ways.find? (fun e => !hasInt e.line pins) with | some e => e.line | none => -1 := by rw [HVO.out, if_neg (by simp [hin])]
    have HVF := Lib.hid HVO2; clear HVO2 HVO
    rw [hin]
    clear hin
    go_wp2_with fail
    go_loop [9] (fun v => ∃ j : Nat, j ≤ k ∧ v = .int .i64 j ∧ ∀ q, q < j → ∀ e, x.2.ways[q]? = some e → hasInt e.line pins = true) (fun v => k - (intOf v).toNat)
    case atStart => exact ⟨0, Nat.zero_le _, rfl, fun j hj => by omega⟩
    case round =>
      obtain ⟨j, hj, rfl, hno⟩ := hrel
      have HN := Lib.hid hno; clear hno
      by_cases hlt : j < k
      · obtain ⟨e, he⟩ : ∃ e, x.2.ways[j]? = some e := ⟨_, List.getElem?_eq_getElem (by have := HL.out; omega)⟩
        have HEj := Lib.hid he; clear he
        have d0 := (ent_cells (HA3.out.ways x hm) HEj.out).1
        go_wp2_with fail
        refine (among_ints _ a b o c pins e.line (HP.out.below HB.out (Nat.le_refl _)) hpl).mono ?_; rintro r w5 ⟨rfl, rfl⟩
        by_cases hi2 : hasInt e.line pins = true
        · have HI2 := Lib.hid hi2
          rw [hi2]
          clear hi2
          go_wp2_with fail
          go_round
          case rel =>
            refine ⟨j + 1, by omega, by go_num, ?_⟩
            intro q hq y hy
            rcases Nat.lt_succ_iff_lt_or_eq.1 hq with h | h
            · exact HN.out q h y hy
            · subst h
              have := HEj.out
              rw [this] at hy
              cases hy
              exact HI2.out
          case measure => first | (simp [intOf]; done) | (simp [intOf]; omega)
        · have hi3 : hasInt e.line pins = false := by simpa using hi2
          have HI3 := Lib.hid hi3
          rw [hi3]
          clear hi2 hi3
          go_wp2_with fail
          go_ret
          refine ⟨ret_int ?_, HB.out⟩
          rw [HVF.out]
          have hfi : x.2.ways.find? (fun e => !hasInt e.line pins) = some e := by
            rw [List.find?_eq_some_iff_getElem]
            have hek := HEj.out
            obtain ⟨hl, rfl⟩ := List.getElem?_eq_some_iff.1 hek
            exact ⟨by simp [HI3.out], j, hl, rfl, fun q hq => by simp [HN.out q hq _ (List.getElem?_eq_getElem (by omega))]⟩
          rw [hfi]
      · obtain rfl : j = k := by omega
        go_wp2_with fail
        go_ret
        refine ⟨ret_int ?_, HB.out⟩
        rw [HVF.out]
        have : x.2.ways.find? (fun e => !hasInt e.line pins) = none := by
          rw [List.find?_eq_none]
          intro e he
          obtain ⟨q, hq, rfl⟩ := List.getElem_of_mem he
          simp [HN.out q (by have := HL.out; omega) _ (List.getElem?_eq_getElem hq)]
        rw [this]
  · have hin' : hasInt e0.line pins = false := by simpa using hin
    have HVO2 : victimOf x.2 pins = e0.line := by rw [HVO.out, if_pos hin']
    have HVF := Lib.hid HVO2; clear HVO2 HVO hin
    rw [hin']
    go_wp2_with fail
    go_ret
    exact ⟨ret_int HVF.out.symm, HB.out⟩

theorem rVictim_any {w : World} {R E B cE k : Nat} {l : List (Nat × SetM)} (h : RefAt w R E B cE k l) (line : Int) (a : Option Addr) (b o c : Nat) (pins : List Int) (hp : IntsAt w a b o pins) (hpl : pins.length ≤ 1000) :
    Calls Tryd.prog 23 #[.pointer (some ⟨R, 0, none⟩), .int .i64 line, .slice a pins.length c] w fun r w' => r = .returned (.int .i64 (rVictim l line pins)) ∧ Below w.heap.size w w' := by
  unfold rVictim
  cases hs : arrSet l line with
  | none => exact rVictim_out line _ _ _ (out_of h.n hs)
  | some p =>
    obtain ⟨i, x⟩ := p
    obtain ⟨h0, h1, hi, hx⟩ := arrSet_some hs
    have hr : rRoom l line = rHas line x.2 := by simp [rRoom, hs]
    by_cases hh : rHas line x.2 = true
    · simp only [if_pos hh]
      exact rVictim_room h line h0 h1 _ _ _ (by rw [hr, hh])
    · simp only [if_neg hh]
      exact rVictim_full h line h0 h1 a b o c pins hp hpl i x (ix_of h0 h1 hi) hx (by rw [hr]; simpa using hh)

def rGet (l : List (Nat × SetM)) (line : Int) : Option Ent := (arrSet l line).bind fun p => p.2.2.ways.find? (isR line)
def rDrop (l : List (Nat × SetM)) (line : Int) : List (Nat × SetM) := match arrSet l line with
  | none => l
  | some (i, x) => if idxOf (isR line) x.2.ways < 0 then l else l.set i (wayUp x (idxOf (isR line) x.2.ways).toNat Ent.gone)
def rTouch (l : List (Nat × SetM)) (line : Int) : List (Nat × SetM) := match arrSet l line with
  | none => l
  | some (i, x) => if idxOf (isR line) x.2.ways < 0 then l else l.set i (bitsUp x (touchM x.2.bits x.2.ways.length (idxOf (isR line) x.2.ways)))
def rPut (l : List (Nat × SetM)) (e : Ent) : Nat × List (Nat × SetM) := match arrSet l e.line with
  | none => (1, l)
  | some (i, x) =>
    if e.Bad then (1, l)
    else if 0 ≤ idxOf (isR e.line) x.2.ways then (0, l.set i (wayUp x (idxOf (isR e.line) x.2.ways).toNat e))
    else if idxOf isRFree x.2.ways < 0 then (6, l)
    else (0, l.set i (wayUp x (idxOf isRFree x.2.ways).toNat e))

theorem rGet_any {w : World} {R E B cE k : Nat} {l : List (Nat × SetM)} (h : RefAt w R E B cE k l) (line : Int) :
    Calls Tryd.prog 17 #[.pointer (some ⟨R, 0, none⟩), .int .i64 line] w fun e w' => e = .returned (.tuple #[((rGet l line).getD Ent.zero).val, .bool (rGet l line).isSome]) ∧ Below w.heap.size w w' := by
  have hf := rfindC (h.below (rEntObj_below w Ent.zero)) line
  cases hs : arrSet l line with
  | none =>
    rw [hs] at hf
    have hg : rGet l line = none := by simp [rGet, hs]
    rw [hg]
    exact rGet_none line 0 (-1) (by omega) hf
  | some p =>
    obtain ⟨i, x⟩ := p
    rw [hs] at hf
    obtain ⟨h0, h1, hi, hx⟩ := arrSet_some hs
    have hg : rGet l line = x.2.ways.find? (isR line) := by simp [rGet, hs]
    rw [hg, find_idxOf]
    by_cases hn : idxOf (isR line) x.2.ways < 0
    · rw [if_pos hn]
      exact rGet_none line _ _ hn hf
    · rw [if_neg hn]
      obtain ⟨e, he, _⟩ := idxOf_pos (p := isR line) (l := x.2.ways) (by omega)
      rw [he]
      have ej : ((idxOf (isR line) x.2.ways).toNat : Int) = idxOf (isR line) x.2.ways := by omega
      exact rGet_some h line i x hx (idxOf (isR line) x.2.ways).toNat e he (by rw [ej]; exact hf)

theorem rDrop_any {w : World} {R E B cE k : Nat} {l : List (Nat × SetM)} (h : RefAt w R E B cE k l) (line : Int) :
    Calls Tryd.prog 18 #[.pointer (some ⟨R, 0, none⟩), .int .i64 line] w fun e w' => e = .returned (.bool (rGet l line).isSome) ∧ RefStep w w' R E B cE k l (rDrop l line) := by
  have hf := rfindC h line
  unfold rDrop
  cases hs : arrSet l line with
  | none =>
    rw [hs] at hf
    have hg : rGet l line = none := by simp [rGet, hs]
    rw [hg]
    refine (rDrop_none line 0 (-1) (by omega) hf).mono ?_
    rintro r w' ⟨rfl, rfl⟩
    exact ⟨rfl, .same h (Below.refl _ _)⟩
  | some p =>
    obtain ⟨i, x⟩ := p
    rw [hs] at hf
    obtain ⟨h0, h1, hi, hx⟩ := arrSet_some hs
    have hg : rGet l line = x.2.ways.find? (isR line) := by simp [rGet, hs]
    rw [hg, find_idxOf]
    have hlen := h.len x (List.mem_of_getElem? hx)
    have hj := idxOf_lt (isR line) x.2.ways
    by_cases hn : idxOf (isR line) x.2.ways < 0
    · simp only [if_pos hn]
      refine (rDrop_none line _ _ hn hf).mono ?_
      rintro r w' ⟨rfl, rfl⟩
      exact ⟨rfl, .same h (Below.refl _ _)⟩
    · simp only [if_neg hn]
      obtain ⟨e, he, _⟩ := idxOf_pos (p := isR line) (l := x.2.ways) (by omega)
      rw [he]
      have ej : ((idxOf (isR line) x.2.ways).toNat : Int) = idxOf (isR line) x.2.ways := by omega
      refine (rDrop_some h line i x hx (idxOf (isR line) x.2.ways).toNat (by omega) (by rw [ej]; exact hf)).mono ?_
      rintro r w' ⟨rfl, hA, hF⟩
      exact ⟨rfl, .way hx hA hF⟩

theorem rTouch_any {w : World} {R E B cE k : Nat} {l : List (Nat × SetM)} (h : RefAt w R E B cE k l) (line : Int) :
    Calls Tryd.prog 19 #[.pointer (some ⟨R, 0, none⟩), .int .i64 line] w fun e w' => e = .returned (.bool (rGet l line).isSome) ∧ RefStep w w' R E B cE k l (rTouch l line) := by
  have hf := rfindC h line
  unfold rTouch
  cases hs : arrSet l line with
  | none =>
    rw [hs] at hf
    have hg : rGet l line = none := by simp [rGet, hs]
    rw [hg]
    refine (rTouch_none line 0 (-1) (by omega) hf).mono ?_
    rintro r w' ⟨rfl, rfl⟩
    exact ⟨rfl, .same h (Below.refl _ _)⟩
  | some p =>
    obtain ⟨i, x⟩ := p
    rw [hs] at hf
    obtain ⟨h0, h1, hi, hx⟩ := arrSet_some hs
    have hg : rGet l line = x.2.ways.find? (isR line) := by simp [rGet, hs]
    rw [hg, find_idxOf]
    have hlen := h.len x (List.mem_of_getElem? hx)
    have hj := idxOf_lt (isR line) x.2.ways
    by_cases hn : idxOf (isR line) x.2.ways < 0
    · simp only [if_pos hn]
      refine (rTouch_none line _ _ hn hf).mono ?_
      rintro r w' ⟨rfl, rfl⟩
      exact ⟨rfl, .same h (Below.refl _ _)⟩
    · simp only [if_neg hn]
      obtain ⟨e, he, _⟩ := idxOf_pos (p := isR line) (l := x.2.ways) (by omega)
      rw [he]
      have ej : ((idxOf (isR line) x.2.ways).toNat : Int) = idxOf (isR line) x.2.ways := by omega
      refine (rTouch_some h line i x hx (idxOf (isR line) x.2.ways).toNat (by omega) (by rw [ej]; exact hf)).mono ?_
      rw [ej, ← hlen]
      rintro r w' ⟨rfl, hA, hF⟩
      exact ⟨rfl, hA, hF.mono fun q _ e => .inr (.inr (.inl e)), map_fst_set hx rfl⟩

theorem rPut_any {w : World} {R E B cE k : Nat} {l : List (Nat × SetM)} (h : RefAt w R E B cE k l) (e : Ent) :
    Calls Tryd.prog 15 #[.pointer (some ⟨R, 0, none⟩), e.val] w fun r w' => r = .returned (.int .i64 ((rPut l e).1 : Nat)) ∧ RefStep w w' R E B cE k l (rPut l e).2 := by
  have hf := rfindC (h.below (rEntObj_below w e)) e.line
  unfold rPut
  cases hs : arrSet l e.line with
  | none =>
    have ho := out_of h.n hs
    refine (rPut_bad e (by rcases ho with ho | ho <;> simp [ho])).mono ?_
    rintro r w' ⟨rfl, hB⟩
    exact ⟨rfl, .same h hB⟩
  | some p =>
    obtain ⟨i, x⟩ := p
    rw [hs] at hf
    obtain ⟨h0, h1, hi, hx⟩ := arrSet_some hs
    have hlen := h.len x (List.mem_of_getElem? hx)
    have hj := idxOf_lt (isR e.line) x.2.ways
    have hge := idxOf_ge (isR e.line) x.2.ways
    by_cases hb : e.Bad
    · simp only [if_pos hb]
      refine (rPut_bad e (.inr (.inr hb))).mono ?_
      rintro r w' ⟨rfl, hB⟩
      exact ⟨rfl, .same h hB⟩
    · simp only [if_neg hb]
      by_cases hn : 0 ≤ idxOf (isR e.line) x.2.ways
      · simp only [if_pos hn]
        have ej : ((idxOf (isR e.line) x.2.ways).toNat : Int) = idxOf (isR e.line) x.2.ways := by omega
        refine (rPut_found h e h0 h1 hb i x hx (idxOf (isR e.line) x.2.ways).toNat (by omega) (by rw [ej]; exact hf)).mono ?_
        rintro r w' ⟨rfl, hA, hF⟩
        exact ⟨rfl, .way hx hA hF⟩
      · simp only [if_neg hn]
        refine (rPut_free h e h0 h1 hb i x hx _ (by omega) hf).mono ?_
        rintro r w' (⟨hfr, rfl, hA, hF⟩ | ⟨hfr, rfl, hA, hF⟩)
        · simp only [if_pos hfr]
          exact ⟨rfl, hA, hF.mono fun q _ e => .inr (.inr (.inr (by rw [e]; exact List.mem_map_of_mem (f := fun x : Nat × SetM => x.1) (List.mem_of_getElem? hx)))), rfl⟩
        · simp only [if_neg (show ¬ idxOf isRFree x.2.ways < 0 by omega)]
          exact ⟨rfl, .way hx hA hF⟩
end Go.Proofs.YtjmlficbnljiaaaDoor
