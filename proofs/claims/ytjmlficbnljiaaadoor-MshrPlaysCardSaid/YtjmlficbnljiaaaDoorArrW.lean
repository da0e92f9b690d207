/- The array's Get, Room, Drop, Touch, Put. -/
import Derived.Test.YtjmlficbnljiaaaDoorArrR
namespace Go.Proofs.YtjmlficbnljiaaaDoor
open Go.RowKit

/-- An array that may be: so many sets, each of so many ways. -/
structure ArrOk (l : List (Nat × SetM)) : Prop where
  n : pow8 l.length
  k : ∀ x ∈ l, pow8 x.2.ways.length
  b : ∀ x ∈ l, 0 ≤ x.2.bits ∧ x.2.bits < 256

/-- A line's set: its number, and itself. -/
def arrSet (l : List (Nat × SetM)) (line : Int) : Option (Nat × (Nat × SetM)) :=
  if 0 ≤ line ∧ line ≤ 31 then (l[line.toNat % l.length]?).map fun x => (line.toNat % l.length, x) else none

theorem arrSet_some {l : List (Nat × SetM)} {line : Int} {i : Nat} {x : Nat × SetM} (h : arrSet l line = some (i, x)) :
    0 ≤ line ∧ line ≤ 31 ∧ setIx line l.length = i ∧ l[i]? = some x := by
  unfold arrSet at h
  split at h
  · rename_i hl
    simp only [Option.map_eq_some_iff, Prod.mk.injEq] at h
    obtain ⟨y, hy, rfl, rfl⟩ := h
    refine ⟨hl.1, hl.2, ?_, hy⟩
    unfold setIx; rw [if_pos hl]
    obtain ⟨m, rfl⟩ := Int.eq_ofNat_of_zero_le hl.1
    simp
  · cases h
theorem arrSet_none {l : List (Nat × SetM)} {line : Int} (hn : pow8 l.length) (h : arrSet l line = none) : setIx line l.length = -1 := by
  unfold arrSet at h
  split at h
  · rename_i hl
    have := Nat.mod_lt line.toNat hn.pos
    simp at h; omega
  · rename_i hl; unfold setIx; rw [if_neg hl]

def arrGet (l : List (Nat × SetM)) (line : Int) : Option Ent := (arrSet l line).bind fun p => p.2.2.ways.find? (isLine line)

theorem find_idxOf {α : Type} (p : α → Bool) (l : List α) : l.find? p = if idxOf p l < 0 then none else l[(idxOf p l).toNat]? := by
  by_cases h : idxOf p l < 0
  · rw [if_pos h, List.find?_eq_none]
    intro x hx
    simp [idxOf_neg h x hx]
  · rw [if_neg h]
    unfold idxOf at *
    by_cases hl : l.findIdx p < l.length
    · rw [if_pos hl, Int.toNat_natCast]
      have e : l.find? p = some l[l.findIdx p] := by
        rw [List.find?_eq_some_iff_getElem]
        refine ⟨List.findIdx_getElem, l.findIdx p, hl, rfl, fun j hj => ?_⟩
        simpa using List.not_of_lt_findIdx hj
      rw [e]; simp [hl]
    · rw [if_neg hl] at h; omega

/-- The ten cells of an entry in a block of its own. -/
theorem ent_cells0 {w : World} {b t : Nat} {e : Ent} (h : Blk w b t e.cells) :
    w.cell? ⟨b, 0, none⟩ = some (.int .i64 e.line) ∧ w.cell? ⟨b, 1, none⟩ = some (.int .i64 e.state) ∧ w.cell? ⟨b, 2, none⟩ = some (.int .i64 e.mode)
    ∧ w.cell? ⟨b, 3, none⟩ = some (.int .i64 e.epoch) ∧ w.cell? ⟨b, 4, none⟩ = some (.int .u32 e.d0) ∧ w.cell? ⟨b, 5, none⟩ = some (.int .u32 e.d1)
    ∧ w.cell? ⟨b, 6, none⟩ = some (.int .u32 e.d2) ∧ w.cell? ⟨b, 7, none⟩ = some (.int .u32 e.d3) ∧ w.cell? ⟨b, 8, none⟩ = some (.bool e.held) ∧ w.cell? ⟨b, 9, none⟩ = some (.bool e.fresh) :=
  ⟨h.cell 0, h.cell 1, h.cell 2, h.cell 3, h.cell 4, h.cell 5, h.cell 6, h.cell 7, h.cell 8, h.cell 9⟩

theorem zero_new (w : World) : Blk (w.alloc (.cells #[.int .i64 0, .int .i64 0, .int .i64 0, .int .i64 0, .int .u32 0, .int .u32 0, .int .u32 0, .int .u32 0, .bool false, .bool false] 32)) w.heap.size 32 Ent.zero.cells := Blk.new _ _ _

/-- A block of an entry of its own. -/
abbrev entObj (e : Ent) : Obj := .cells #[.int .i64 e.line, .int .i64 e.state, .int .i64 e.mode, .int .i64 e.epoch, .int .u32 e.d0, .int .u32 e.d1, .int .u32 e.d2, .int .u32 e.d3, .bool e.held, .bool e.fresh] 32
theorem entObj_new (w : World) (e : Ent) : Blk (w.alloc (entObj e)) w.heap.size 32 e.cells := Blk.new _ _ _
theorem entObj_below (w : World) (e : Ent) : Below w.heap.size w (w.alloc (entObj e)) := (Below.refl _ _).alloc (Nat.le_refl _) _
abbrev zeroObj : Obj := .cells #[.int .i64 0, .int .i64 0, .int .i64 0, .int .i64 0, .int .u32 0, .int .u32 0, .int .u32 0, .int .u32 0, .bool false, .bool false] 32
theorem zeroObj_below (w : World) : Below w.heap.size w (w.alloc zeroObj) := (Below.refl _ _).alloc (Nat.le_refl _) _
theorem zeroObj_lt (w : World) : w.heap.size < (w.alloc zeroObj).heap.size := by simp
theorem entObj_lt (w : World) (e : Ent) : w.heap.size < (w.alloc (entObj e)).heap.size := by simp

set_option maxHeartbeats 800000 in
set_option maxRecDepth 10000 in
theorem Get_none {w : World} {A : Nat} (line : Int) (idx : Int) (p : Option Addr) (hidx : idx < 0)
    (hf : Calls Tryd.prog 41 #[.pointer (some ⟨A, 0, none⟩), .int .i64 line] (w.alloc (zeroObj)) fun e w' => e = .returned (.tuple #[.pointer p, .int .i64 idx]) ∧ Below (w.alloc (zeroObj)).heap.size (w.alloc (zeroObj)) w') :
    Calls Tryd.prog 11 #[.pointer (some ⟨A, 0, none⟩), .int .i64 line] w fun e w' => e = .returned (.tuple #[Ent.zero.val, .bool false]) ∧ Below w.heap.size w w' := by
  have HF := Lib.hid hf; clear hf
  go_enter Tryd.func11, Tryd.ntmps11
  go_wp2_with fail
  refine HF.out.mono ?_; rintro e w1 ⟨rfl, hB⟩
  have hb := (zero_new w).below hB (zeroObj_lt _)
  obtain ⟨c0, c1, c2, c3, c4, c5, c6, c7, c8, c9⟩ := ent_cells0 hb
  have hfr := hb.free
  have hlt := hb.lt
  clear hb
  have HB := Lib.hid hB; clear hB
  simp only [Ent.zero] at c0 c1 c2 c3 c4 c5 c6 c7 c8 c9
  go_wp2_with fail
  refine bodyPost_ret (v := .tuple #[Ent.zero.val, .bool false]) (by simp [results, Tryd.results11, go_sem, *, Ent.val, Ent.zero]) rfl ⟨rfl, ?_⟩
  iterate 10 refine below_set (Nat.le_refl _) ?_
  exact (zeroObj_below w).trans (HB.out.mono (Nat.le_of_lt (zeroObj_lt _)))

set_option maxHeartbeats 800000 in
set_option maxRecDepth 10000 in
theorem Get_some {w : World} {A S : Nat} {l : List (Nat × SetM)} (h : ArrAt w A S l) (ok : ArrOk l) (line : Int) (i : Nat) (x : Nat × SetM) (hx : l[i]? = some x) (hi : setIx line l.length = i)
    (j : Nat) (hj : idxOf (isLine line) x.2.ways = j) (e : Ent) (he : x.2.ways[j]? = some e) :
    Calls Tryd.prog 11 #[.pointer (some ⟨A, 0, none⟩), .int .i64 line] w fun r w' => r = .returned (.tuple #[e.val, .bool true]) ∧ Below w.heap.size w w' := by
  have hm : x ∈ l := List.mem_of_getElem? hx
  have hk8 := (ok.k x hm).le
  have hjk : j < x.2.ways.length := (List.getElem?_eq_some_iff.1 he).1
  have HF := Lib.hid (find_in (h.below (zeroObj_below w)) ok.n line i hi x hx hk8)
  rw [hj] at HF
  have HA := Lib.hid (h.below (zeroObj_below w))
  have HX := Lib.hid hx
  have HE := Lib.hid he
  clear h ok hi hj he hx
  go_enter Tryd.func11, Tryd.ntmps11
  go_wp2_with fail
  refine HF.out.mono ?_; rintro r w1 ⟨rfl, hB⟩
  have hA := HA.out.below hB
  have cs := hA.slice HX.out
  obtain ⟨b0, b1, b2, b3, b4, b5, b6, b7, b8, b9⟩ := ent_cells (hA.ways x hm) HE.out
  have hb := (zero_new w).below hB (zeroObj_lt _)
  obtain ⟨c0, c1, c2, c3, c4, c5, c6, c7, c8, c9⟩ := ent_cells0 hb
  have hfr := hb.free
  have hlt := hb.lt
  clear hb hA
  have HB := Lib.hid hB; clear hB
  simp only [Ent.zero] at c0 c1 c2 c3 c4 c5 c6 c7 c8 c9
  go_wp2_with fail
  refine bodyPost_ret (v := .tuple #[e.val, .bool true]) (by simp [results, Tryd.results11, go_sem, *, Ent.val]) rfl ⟨rfl, ?_⟩
  iterate 10 refine below_set (Nat.le_refl _) ?_
  exact (zeroObj_below w).trans (HB.out.mono (Nat.le_of_lt (zeroObj_lt _)))

theorem Get_any {w : World} {A S : Nat} {l : List (Nat × SetM)} (h : ArrAt w A S l) (ok : ArrOk l) (line : Int) :
    Calls Tryd.prog 11 #[.pointer (some ⟨A, 0, none⟩), .int .i64 line] w fun e w' => e = .returned (.tuple #[((arrGet l line).getD Ent.zero).val, .bool (arrGet l line).isSome]) ∧ Below w.heap.size w w' := by
  have hA := h.below (zeroObj_below w)
  cases hs : arrSet l line with
  | none =>
    have hg : arrGet l line = none := by simp [arrGet, hs]
    rw [hg]
    exact Get_none line (-1) none (by omega) (find_out hA ok.n line (arrSet_none ok.n hs))
  | some p =>
    obtain ⟨i, x⟩ := p
    obtain ⟨h0, h1, hi, hx⟩ := arrSet_some hs
    have hm : x ∈ l := List.mem_of_getElem? hx
    have hg : arrGet l line = x.2.ways.find? (isLine line) := by simp [arrGet, hs]
    rw [hg, find_idxOf]
    by_cases hn : idxOf (isLine line) x.2.ways < 0
    · rw [if_pos hn]
      exact Get_none line _ _ hn (find_in hA ok.n line i hi x hx (ok.k x hm).le)
    · rw [if_neg hn]
      obtain ⟨e, he, _⟩ := idxOf_pos (p := isLine line) (l := x.2.ways) (by omega)
      rw [he]
      exact Get_some h ok line i x hx hi _ (by omega) e he
end Go.Proofs.YtjmlficbnljiaaaDoor
