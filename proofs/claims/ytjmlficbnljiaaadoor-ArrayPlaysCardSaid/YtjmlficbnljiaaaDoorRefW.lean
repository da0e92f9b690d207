/- The document's own array: Get, Drop, Touch, Room, Put. -/
import Derived.Test.YtjmlficbnljiaaaDoorRef
namespace Go.Proofs.YtjmlficbnljiaaaDoor
open Go.RowKit

def Ent.gone : Ent := ⟨-1, 0, 0, 0, 0, 0, 0, 0, false, false⟩

theorem RefAt.way_ne {w : World} {R E B cE k : Nat} {l : List (Nat × SetM)} (h : RefAt w R E B cE k l) {x : Nat × SetM} (hx : x ∈ l) : R ≠ x.1 ∧ E ≠ x.1 ∧ B ≠ x.1 ∧ R ≠ B ∧ E ≠ B ∧ R ≠ E := by
  have hn := h.nodup
  have hm := List.mem_map_of_mem (f := fun x : Nat × SetM => x.1) hx
  simp only [List.nodup_cons, List.mem_cons] at hn
  obtain ⟨n1, n2, n3, _⟩ := hn
  refine ⟨fun e => n1 (.inr (.inr ?_)), fun e => n2 (.inr ?_), fun e => n3 ?_, fun e => n1 (.inr (.inl e)), fun e => n2 (.inl e), fun e => n1 (.inl e)⟩ <;> (rw [e]; exact hm)
theorem RefAt.inj {w : World} {R E B cE k : Nat} {l : List (Nat × SetM)} (h : RefAt w R E B cE k l) {i j : Nat} {x y : Nat × SetM} (hx : l[i]? = some x) (hy : l[j]? = some y) (e : x.1 = y.1) : i = j := by
  have hn := h.nodup
  simp only [List.nodup_cons] at hn
  have hn2 := List.pairwise_iff_getElem.1 hn.2.2.2
  obtain ⟨hi, rfl⟩ := List.getElem?_eq_some_iff.1 hx
  obtain ⟨hj, rfl⟩ := List.getElem?_eq_some_iff.1 hy
  rcases Nat.lt_trichotomy i j with hl | hl | hl
  · exact absurd (by rw [List.getElem_map, List.getElem_map]; exact e) (hn2 i j (by simpa using hi) (by simpa using hj) hl)
  · exact hl
  · exact absurd (by rw [List.getElem_map, List.getElem_map]; exact e.symm) (hn2 j i (by simpa using hj) (by simpa using hi) hl)

theorem RefAt.setWay {w w' : World} {R E B cE k : Nat} {l : List (Nat × SetM)} (h : RefAt w R E B cE k l) {i j : Nat} {x : Nat × SetM} (hx : l[i]? = some x) (e : Ent)
    (hf : Fr (fun q => q = x.1) w w') (hb : Blk w' x.1 50 (flat Ent.cells (x.2.ways.set j e))) : RefAt w' R E B cE k (l.set i (wayUp x j e)) := by
  have hm : x ∈ l := List.mem_of_getElem? hx
  obtain ⟨n1, n2, n3, _⟩ := h.way_ne hm
  have hil : i < l.length := (List.getElem?_eq_some_iff.1 hx).1
  refine ⟨?_, ?_, ?_, Nat.lt_of_lt_of_le h.eLt hf.size, ?_, ?_, ?_, ?_, h.kk, ?_⟩
  · simpa using h.arr.fr hf (fun e => n1 e)
  · intro q y hy
    rw [List.getElem?_set] at hy
    split at hy
    · rename_i hq; subst hq
      cases hy
      exact hf.cell (h.rows i x hx) (fun e => n2 e)
    · exact hf.cell (h.rows q y hy) (fun e => n2 e)
  · intro y hy
    rcases List.mem_or_eq_of_mem_set hy with hy | rfl
    · exact h.len y hy
    · simpa [wayUp] using h.len x hm
  · have h2 := h.bits.fr hf (fun e => n3 e)
    have e1 : (l.set i (wayUp x j e)).map (fun x => Value.int .u8 x.2.bits) = l.map (fun x => Value.int .u8 x.2.bits) := by
      rw [List.map_set]
      apply List.ext_getElem?
      intro q
      rw [List.getElem?_set]
      split
      · rename_i hq; subst hq
        obtain ⟨hl, rfl⟩ := List.getElem?_eq_some_iff.1 hx
        simp [wayUp, hl]
      · rfl
    rw [e1]; exact h2
  · intro y hy
    obtain ⟨q, hq⟩ := List.mem_iff_getElem?.1 hy
    rw [List.getElem?_set] at hq
    split at hq
    · rename_i hik; subst hik
      cases hq
      exact hb
    · rename_i hik
      exact (h.ways y (List.mem_of_getElem? hq)).fr hf (fun e => hik (h.inj hq hx e).symm)
  · rw [map_fst_set hx (y := wayUp x j e) rfl]; exact h.nodup
  · simpa using h.n
  · intro y hy
    rcases List.mem_or_eq_of_mem_set hy with hy | rfl
    · exact h.b y hy
    · exact h.b x hm

theorem RefAt.setBits {w w' : World} {R E B cE k : Nat} {l : List (Nat × SetM)} (h : RefAt w R E B cE k l) {i : Nat} {x : Nat × SetM} (hx : l[i]? = some x) (b : Int) (hbr : 0 ≤ b ∧ b < 256)
    (hf : Fr (fun q => q = B) w w') (hb : Blk w' B 5 ((l.map fun x => Value.int .u8 x.2.bits).set i (.int .u8 b))) : RefAt w' R E B cE k (l.set i (bitsUp x b)) := by
  have hm : x ∈ l := List.mem_of_getElem? hx
  obtain ⟨n1, n2, n3, n4, n5, n6⟩ := h.way_ne hm
  have hil : i < l.length := (List.getElem?_eq_some_iff.1 hx).1
  refine ⟨?_, ?_, ?_, Nat.lt_of_lt_of_le h.eLt hf.size, ?_, ?_, ?_, ?_, h.kk, ?_⟩
  · simpa using h.arr.fr hf (fun e => n4 e)
  · intro q y hy
    rw [List.getElem?_set] at hy
    split at hy
    · rename_i hq; subst hq
      cases hy
      exact hf.cell (h.rows i x hx) (fun e => n5 e)
    · exact hf.cell (h.rows q y hy) (fun e => n5 e)
  · intro y hy
    rcases List.mem_or_eq_of_mem_set hy with hy | rfl
    · exact h.len y hy
    · simpa [bitsUp] using h.len x hm
  · rw [List.map_set]; exact hb
  · intro y hy
    rcases List.mem_or_eq_of_mem_set hy with hy | rfl
    · exact (h.ways y hy).fr hf (fun e => (h.way_ne hy).2.2.1 e.symm)
    · exact (h.ways x hm).fr hf (fun e => n3 e.symm)
  · rw [map_fst_set hx (y := bitsUp x b) rfl]; exact h.nodup
  · simpa using h.n
  · intro y hy
    rcases List.mem_or_eq_of_mem_set hy with hy | rfl
    · exact h.b y hy
    · exact hbr

/-- What a call of the document's array that changes it owes. -/
structure RefStep (w w' : World) (R E B cE k : Nat) (l l' : List (Nat × SetM)) : Prop where
  at_ : RefAt w' R E B cE k l'
  fr : Fr (refBlocks R E B l) w w'
  map : l'.map (·.1) = l.map (·.1)
theorem RefStep.same {w w' : World} {R E B cE k : Nat} {l : List (Nat × SetM)} (h : RefAt w R E B cE k l) (hb : Below w.heap.size w w') : RefStep w w' R E B cE k l l :=
  ⟨h.below hb, Fr.of_below hb, rfl⟩
theorem RefStep.way {w w' : World} {R E B cE k : Nat} {l : List (Nat × SetM)} {i j : Nat} {x : Nat × SetM} {e : Ent} (hx : l[i]? = some x) (h : RefAt w' R E B cE k (l.set i (wayUp x j e))) (hf : Fr (fun q => q = x.1) w w') :
    RefStep w w' R E B cE k l (l.set i (wayUp x j e)) :=
  ⟨h, hf.mono fun q _ e => .inr (.inr (.inr (by rw [e]; exact List.mem_map_of_mem (f := fun x : Nat × SetM => x.1) (List.mem_of_getElem? hx)))), map_fst_set hx rfl⟩

abbrev RFindC (R : Nat) (line s idx : Int) (w : World) : Prop := Calls Tryd.prog 49 #[.pointer (some ⟨R, 0, none⟩), .int .i64 line] w fun e w' => e = .returned (.tuple #[.int .i64 s, .int .i64 idx]) ∧ w = w'
theorem rfindC {w : World} {R E B cE k : Nat} {l : List (Nat × SetM)} (h : RefAt w R E B cE k l) (line : Int) :
    match arrSet l line with
    | none => RFindC R line 0 (-1) w
    | some (i, x) => RFindC R line i (idxOf (isR line) x.2.ways) w := by
  have hf := rfind_any h line
  cases hs : arrSet l line with
  | none => simp only [hs] at hf; exact hf
  | some p => simp only [hs] at hf; exact hf

abbrev rEntObj (e : Ent) : Obj := .cells #[.int .i64 e.line, .int .i64 e.state, .int .i64 e.mode, .int .i64 e.epoch, .int .u32 e.d0, .int .u32 e.d1, .int .u32 e.d2, .int .u32 e.d3, .bool e.held, .bool e.fresh] 50
theorem rEntObj_new (w : World) (e : Ent) : Blk (w.alloc (rEntObj e)) w.heap.size 50 e.cells := Blk.new _ _ _
theorem rEntObj_below (w : World) (e : Ent) : Below w.heap.size w (w.alloc (rEntObj e)) := (Below.refl _ _).alloc (Nat.le_refl _) _
theorem rEntObj_lt (w : World) (e : Ent) : w.heap.size < (w.alloc (rEntObj e)).heap.size := by simp

set_option maxHeartbeats 800000 in
set_option maxRecDepth 10000 in
theorem rGet_none {w : World} {R : Nat} (line s idx : Int) (hidx : idx < 0) (hf : RFindC R line s idx (w.alloc (rEntObj Ent.zero))) :
    Calls Tryd.prog 17 #[.pointer (some ⟨R, 0, none⟩), .int .i64 line] w fun e w' => e = .returned (.tuple #[Ent.zero.val, .bool false]) ∧ Below w.heap.size w w' := by
  have HF := Lib.hid hf; clear hf
  go_enter Tryd.func17, Tryd.ntmps17
  go_wp2_with fail
  refine HF.out.mono ?_; rintro e w1 ⟨rfl, rfl⟩
  go_wp2_with fail
  refine bodyPost_ret (v := .tuple #[Ent.zero.val, .bool false]) (by simp [results, Tryd.results17, go_sem, *, Ent.val, Ent.zero]) rfl ⟨rfl, ?_⟩
  exact (Below.refl _ _).alloc (Nat.le_refl _) _

set_option maxHeartbeats 800000 in
set_option maxRecDepth 10000 in
theorem rGet_some {w : World} {R E B cE k : Nat} {l : List (Nat × SetM)} (h : RefAt w R E B cE k l) (line : Int) (i : Nat) (x : Nat × SetM) (hx : l[i]? = some x)
    (j : Nat) (e : Ent) (he : x.2.ways[j]? = some e) (hf : RFindC R line i j (w.alloc (rEntObj Ent.zero))) :
    Calls Tryd.prog 17 #[.pointer (some ⟨R, 0, none⟩), .int .i64 line] w fun r w' => r = .returned (.tuple #[e.val, .bool true]) ∧ Below w.heap.size w w' := by
  have hm : x ∈ l := List.mem_of_getElem? hx
  have hjk : j < k := by rw [← h.len x hm]; exact (List.getElem?_eq_some_iff.1 he).1
  have hil : i < l.length := (List.getElem?_eq_some_iff.1 hx).1
  have hA := h.below (rEntObj_below w Ent.zero)
  have hn8 := h.n.le
  have hk8 := h.kk.le
  obtain ⟨a0, a1, a2, a3⟩ := hA.c0
  have cr := hA.rows i x hx
  obtain ⟨b0, b1, b2, b3, b4, b5, b6, b7, b8, b9⟩ := ent_cells (hA.ways x hm) he
  obtain ⟨c0, c1, c2, c3, c4, c5, c6, c7, c8, c9⟩ := ent_cells0 (rEntObj_new w Ent.zero)
  have HF := Lib.hid hf; clear hf h hx he hA c0 c1 c2 c3 c4 c5 c6 c7 c8 c9
  go_enter Tryd.func17, Tryd.ntmps17
  go_wp2_with fail
  refine HF.out.mono ?_; rintro r w1 ⟨rfl, rfl⟩
  go_wp2_with fail
  refine bodyPost_ret (v := .tuple #[e.val, .bool true]) (by simp [results, Tryd.results17, go_sem, *, Ent.val]) rfl ⟨rfl, ?_⟩
  exact (Below.refl _ _).alloc (Nat.le_refl _) _
end Go.Proofs.YtjmlficbnljiaaaDoor
