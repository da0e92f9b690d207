/- The array's calls, each by one contract over its model. -/
import Derived.Test.YtjmlficbnljiaaaDoorNew
import Derived.Test.YtjmlficbnljiaaaDoorVic
import Derived.Test.YtjmlficbnljiaaaDoorKeep
namespace Go.Proofs.YtjmlficbnljiaaaDoor
open Go.RowKit

theorem arrBlocks_map {A S : Nat} {l l' : List (Nat × SetM)} (h : l'.map (·.1) = l.map (·.1)) (k : Nat) : arrBlocks A S l' k ↔ arrBlocks A S l k := by unfold arrBlocks; rw [h]
theorem fr_way {w w' : World} {A S : Nat} {l : List (Nat × SetM)} {x : Nat × SetM} (hx : x ∈ l) (h : Fr (fun k => k = x.1) w w') : Fr (arrBlocks A S l) w w' :=
  h.mono fun k _ e => .inr (.inr (by rw [e]; exact List.mem_map_of_mem (f := fun x : Nat × SetM => x.1) hx))
theorem fr_bits {w w' : World} {A S : Nat} {l : List (Nat × SetM)} (h : Fr (fun k => k = S) w w') : Fr (arrBlocks A S l) w w' := h.mono fun _ _ e => .inr (.inl e)

theorem find_any {w : World} {A S : Nat} {l : List (Nat × SetM)} (h : ArrAt w A S l) (ok : ArrOk l) (line : Int) :
    match arrSet l line with
    | none => FindC A line (-1) none w
    | some (i, x) => FindC A line (idxOf (isLine line) x.2.ways) (some ⟨S, i * 2, none⟩) w := by
  cases hs : arrSet l line with
  | none => exact find_out h ok.n line (arrSet_none ok.n hs)
  | some p =>
    obtain ⟨i, x⟩ := p
    obtain ⟨h0, h1, hi, hx⟩ := arrSet_some hs
    exact find_in h ok.n line i hi x hx (ok.k x (List.mem_of_getElem? hx)).le

def arrDrop (l : List (Nat × SetM)) (line : Int) : List (Nat × SetM) := match arrSet l line with
  | none => l
  | some (i, x) => if idxOf (isLine line) x.2.ways < 0 then l else l.set i (wayUp x (idxOf (isLine line) x.2.ways).toNat Ent.zero)
def arrTouch (l : List (Nat × SetM)) (line : Int) : List (Nat × SetM) := match arrSet l line with
  | none => l
  | some (i, x) => if idxOf (isLine line) x.2.ways < 0 then l else l.set i (bitsUp x (touchM x.2.bits x.2.ways.length (idxOf (isLine line) x.2.ways)))
def arrPut (l : List (Nat × SetM)) (e : Ent) : Nat × List (Nat × SetM) := match arrSet l e.line with
  | none => (1, l)
  | some (i, x) =>
    if e.Bad then (1, l)
    else if 0 ≤ idxOf (isLine e.line) x.2.ways then (0, l.set i (wayUp x (idxOf (isLine e.line) x.2.ways).toNat e))
    else if idxOf isFree x.2.ways < 0 then (6, l)
    else (0, l.set i (wayUp x (idxOf isFree x.2.ways).toNat e))
def arrRoom (l : List (Nat × SetM)) (line : Int) : Bool := match arrSet l line with
  | none => false
  | some (_, x) => decide (0 ≤ idxOf (isLine line) x.2.ways) || decide (0 ≤ idxOf isFree x.2.ways)
def arrVictim (l : List (Nat × SetM)) (line : Int) (pins : List Int) : Int := match arrSet l line with
  | none => -1
  | some (_, x) => if 0 ≤ idxOf (isLine line) x.2.ways ∨ 0 ≤ idxOf isFree x.2.ways then -1 else victimOf x.2 pins

/-- What a call of an array that changes it owes. -/
structure ArrStep (w w' : World) (A S : Nat) (l l' : List (Nat × SetM)) : Prop where
  at_ : ArrAt w' A S l'
  ok : ArrOk l'
  fr : Fr (arrBlocks A S l) w w'
  map : l'.map (·.1) = l.map (·.1)

theorem ArrStep.same {w w' : World} {A S : Nat} {l : List (Nat × SetM)} (h : ArrAt w A S l) (ok : ArrOk l) (hb : Below w.heap.size w w') : ArrStep w w' A S l l :=
  ⟨h.below hb, ok, Fr.of_below hb, rfl⟩
theorem ArrStep.way {w w' : World} {A S : Nat} {l : List (Nat × SetM)} (ok : ArrOk l) {i j : Nat} {x : Nat × SetM} {e : Ent} (hx : l[i]? = some x) (h : ArrAt w' A S (l.set i (wayUp x j e))) (hf : Fr (fun k => k = x.1) w w') :
    ArrStep w w' A S l (l.set i (wayUp x j e)) :=
  ⟨h, ok.set hx (by simp [wayUp]) (ok.b x (List.mem_of_getElem? hx)), fr_way (List.mem_of_getElem? hx) hf, map_fst_set hx rfl⟩

theorem Drop_any {w : World} {A S : Nat} {l : List (Nat × SetM)} (h : ArrAt w A S l) (ok : ArrOk l) (line : Int) :
    Calls Tryd.prog 8 #[.pointer (some ⟨A, 0, none⟩), .int .i64 line] w fun r w' => r = .returned (.bool (arrGet l line).isSome) ∧ ArrStep w w' A S l (arrDrop l line) := by
  have hf := find_any h ok line
  cases hs : arrSet l line with
  | none =>
    rw [hs] at hf
    have e1 : arrGet l line = none := by simp [arrGet, hs]
    have e2 : arrDrop l line = l := by simp [arrDrop, hs]
    rw [e1, e2]
    refine (Drop_none line _ _ (by omega) hf).mono ?_
    rintro r w' ⟨rfl, hB⟩
    exact ⟨rfl, .same h ok hB⟩
  | some p =>
    obtain ⟨i, x⟩ := p
    rw [hs] at hf
    obtain ⟨h0, h1, hi, hx⟩ := arrSet_some hs
    have e1 : arrGet l line = x.2.ways.find? (isLine line) := by simp [arrGet, hs]
    rw [e1, find_idxOf]
    unfold arrDrop
    simp only [hs]
    by_cases hn : idxOf (isLine line) x.2.ways < 0
    · rw [if_pos hn, if_pos hn]
      refine (Drop_none line _ _ hn hf).mono ?_
      rintro r w' ⟨rfl, hB⟩
      exact ⟨rfl, .same h ok hB⟩
    · rw [if_neg hn, if_neg hn]
      obtain ⟨e, he, _⟩ := idxOf_pos (p := isLine line) (l := x.2.ways) (by omega)
      have hj := idxOf_lt (isLine line) x.2.ways
      have ej : ((idxOf (isLine line) x.2.ways).toNat : Int) = idxOf (isLine line) x.2.ways := by omega
      rw [he]
      refine (Drop_some h line i x hx (idxOf (isLine line) x.2.ways).toNat (by omega) (by rw [ej]; exact hf)).mono ?_
      rintro r w' ⟨rfl, hA, hF⟩
      exact ⟨rfl, .way ok hx hA hF⟩

theorem Touch_any {w : World} {A S : Nat} {l : List (Nat × SetM)} (h : ArrAt w A S l) (ok : ArrOk l) (line : Int) :
    Calls Tryd.prog 10 #[.pointer (some ⟨A, 0, none⟩), .int .i64 line] w fun r w' => r = .returned (.bool (arrGet l line).isSome) ∧ ArrStep w w' A S l (arrTouch l line) := by
  have hf := find_any h ok line
  cases hs : arrSet l line with
  | none =>
    rw [hs] at hf
    have e1 : arrGet l line = none := by simp [arrGet, hs]
    have e2 : arrTouch l line = l := by simp [arrTouch, hs]
    rw [e1, e2]
    refine (Touch_none line _ _ (by omega) hf).mono ?_
    rintro r w' ⟨rfl, hB⟩
    exact ⟨rfl, .same h ok hB⟩
  | some p =>
    obtain ⟨i, x⟩ := p
    rw [hs] at hf
    obtain ⟨h0, h1, hi, hx⟩ := arrSet_some hs
    have hm := List.mem_of_getElem? hx
    have e1 : arrGet l line = x.2.ways.find? (isLine line) := by simp [arrGet, hs]
    rw [e1, find_idxOf]
    unfold arrTouch
    simp only [hs]
    by_cases hn : idxOf (isLine line) x.2.ways < 0
    · rw [if_pos hn, if_pos hn]
      refine (Touch_none line _ _ hn hf).mono ?_
      rintro r w' ⟨rfl, hB⟩
      exact ⟨rfl, .same h ok hB⟩
    · rw [if_neg hn, if_neg hn]
      obtain ⟨e, he, _⟩ := idxOf_pos (p := isLine line) (l := x.2.ways) (by omega)
      have hj := idxOf_lt (isLine line) x.2.ways
      have ej : ((idxOf (isLine line) x.2.ways).toNat : Int) = idxOf (isLine line) x.2.ways := by omega
      rw [he]
      refine (Touch_some h line i x hx (ok.k x hm) (idxOf (isLine line) x.2.ways).toNat (by omega) (by rw [ej]; exact hf)).mono ?_
      rw [ej]
      rintro r w' ⟨rfl, hA, hF⟩
      refine ⟨rfl, hA, ok.set hx rfl ?_, fr_bits hF, map_fst_set hx rfl⟩
      exact touch_range _ _ _ (ok.k x hm) (by omega) hj (ok.b x hm).1 (ok.b x hm).2

theorem Put_any {w : World} {A S : Nat} {l : List (Nat × SetM)} (h : ArrAt w A S l) (ok : ArrOk l) (e : Ent) (p : Nat → Addr) (hg : Glob w p) :
    Calls Tryd.prog 9 #[.pointer (some ⟨A, 0, none⟩), e.val] w fun r w' => r = .returned (codeErr p opPut e.line (arrPut l e).1) ∧ ArrStep w w' A S l (arrPut l e).2 := by
  have hf := find_any (h.below (entObj_below w e)) ok e.line
  have hArg := hg.cell 1 (by omega) (by omega)
  have hFull := hg.cell 6 (by omega) (by omega)
  cases hs : arrSet l e.line with
  | none =>
    rw [hs] at hf
    have e2 : arrPut l e = (1, l) := by simp [arrPut, hs]
    rw [e2]
    refine (Put_out e _ _ hArg hf).mono ?_
    rintro r w' ⟨rfl, hB⟩
    exact ⟨by simp [codeErr], .same h ok hB⟩
  | some q =>
    obtain ⟨i, x⟩ := q
    rw [hs] at hf
    obtain ⟨h0, h1, hi, hx⟩ := arrSet_some hs
    have hm := List.mem_of_getElem? hx
    unfold arrPut
    simp only [hs]
    by_cases hb : e.Bad
    · simp only [if_pos hb]
      refine (Put_bad e hb _ _ hArg _ _ hf).mono ?_
      rintro r w' ⟨rfl, hB⟩
      exact ⟨by simp [codeErr], .same h ok hB⟩
    · simp only [if_neg hb]
      have hj := idxOf_lt (isLine e.line) x.2.ways
      have hj2 := idxOf_lt isFree x.2.ways
      by_cases hn : 0 ≤ idxOf (isLine e.line) x.2.ways
      · simp only [if_pos hn]
        have ej : ((idxOf (isLine e.line) x.2.ways).toNat : Int) = idxOf (isLine e.line) x.2.ways := by omega
        refine (Put_found h e hb i x hx (ok.k x hm).le (idxOf (isLine e.line) x.2.ways).toNat (by omega) (by rw [ej]; exact hf)).mono ?_
        rintro r w' ⟨rfl, hA, hF⟩
        exact ⟨by simp [codeErr], .way ok hx hA hF⟩
      · simp only [if_neg hn]
        by_cases hfr : idxOf isFree x.2.ways < 0
        · simp only [if_pos hfr]
          refine (Put_full h e hb _ _ hFull i x hx (ok.k x hm).le hfr _ (by omega) hf).mono ?_
          rintro r w' ⟨rfl, hB⟩
          exact ⟨by simp [codeErr], .same h ok hB⟩
        · simp only [if_neg hfr]
          refine (Put_new h e hb i x hx (ok.k x hm).le (idxOf isFree x.2.ways).toNat (by omega) (by omega) _ (by omega) hf).mono ?_
          rintro r w' ⟨rfl, hA, hF⟩
          exact ⟨by simp [codeErr], .way ok hx hA hF⟩

theorem Room_any {w : World} {A S : Nat} {l : List (Nat × SetM)} (h : ArrAt w A S l) (ok : ArrOk l) (line : Int) :
    Calls Tryd.prog 20 #[.pointer (some ⟨A, 0, none⟩), .int .i64 line] w fun r w' => r = .returned (.bool (arrRoom l line)) ∧ Below w.heap.size w w' := by
  have hf := find_any h ok line
  cases hs : arrSet l line with
  | none =>
    rw [hs] at hf
    have e2 : arrRoom l line = false := by simp [arrRoom, hs]
    rw [e2]
    exact Room_out line hf
  | some q =>
    obtain ⟨i, x⟩ := q
    rw [hs] at hf
    obtain ⟨h0, h1, hi, hx⟩ := arrSet_some hs
    unfold arrRoom
    simp only [hs]
    by_cases hn : 0 ≤ idxOf (isLine line) x.2.ways
    · have ej : ((idxOf (isLine line) x.2.ways).toNat : Int) = idxOf (isLine line) x.2.ways := by omega
      rw [decide_eq_true hn, Bool.true_or]
      exact Room_found line (idxOf (isLine line) x.2.ways).toNat _ (by rw [ej]; exact hf)
    · rw [decide_eq_false hn, Bool.false_or]
      exact Room_free h line _ i x hx (ok.k x (List.mem_of_getElem? hx)).le (by omega) hf

theorem Victim_all {w : World} {A S : Nat} {l : List (Nat × SetM)} (h : ArrAt w A S l) (ok : ArrOk l) (line : Int) (a : Option Addr) (b o c : Nat) (pins : List Int) (hp : IntsAt w a b o pins) (hpl : pins.length ≤ 1000) :
    Calls Tryd.prog 22 #[.pointer (some ⟨A, 0, none⟩), .int .i64 line, .slice a pins.length c] w fun r w' => r = .returned (.int .i64 (arrVictim l line pins)) ∧ Below w.heap.size w w' := by
  have hf := find_any h ok line
  cases hs : arrSet l line with
  | none =>
    rw [hs] at hf
    have e2 : arrVictim l line pins = -1 := by simp [arrVictim, hs]
    rw [e2]
    exact Victim_none line _ a _ c none (.inl rfl) hf
  | some q =>
    obtain ⟨i, x⟩ := q
    rw [hs] at hf
    obtain ⟨h0, h1, hi, hx⟩ := arrSet_some hs
    have hm := List.mem_of_getElem? hx
    unfold arrVictim
    simp only [hs]
    by_cases hn : 0 ≤ idxOf (isLine line) x.2.ways
    · rw [if_pos (.inl hn)]
      exact Victim_none line _ a _ c _ (.inr hn) hf
    · by_cases hfr : 0 ≤ idxOf isFree x.2.ways
      · rw [if_pos (.inr hfr)]
        exact Victim_free h line _ a _ c i x hx (ok.k x hm).le (by omega) hfr hf
      · rw [if_neg (by omega)]
        exact Victim_full h line _ a b o c pins hp hpl i x hx (ok.k x hm) (ok.b x hm).1 (ok.b x hm).2 (by omega) (by omega) hf
end Go.Proofs.YtjmlficbnljiaaaDoor
