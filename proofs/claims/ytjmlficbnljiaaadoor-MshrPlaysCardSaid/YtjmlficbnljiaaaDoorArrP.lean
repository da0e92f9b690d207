/- The array's Room, Drop, Touch, Put. -/
import Derived.Test.YtjmlficbnljiaaaDoorArrW
import Derived.Test.YtjmlficbnljiaaaDoorPlru
namespace Go.Proofs.YtjmlficbnljiaaaDoor
open Go.RowKit

/-- One way of a set anew. -/
def wayUp (x : Nat × SetM) (j : Nat) (e : Ent) : Nat × SetM := (x.1, ⟨x.2.bits, x.2.ways.set j e⟩)
def bitsUp (x : Nat × SetM) (b : Int) : Nat × SetM := (x.1, ⟨b, x.2.ways⟩)

theorem map_fst_set {l : List (Nat × SetM)} {i : Nat} {x y : Nat × SetM} (hx : l[i]? = some x) (h : y.1 = x.1) : (l.set i y).map (·.1) = l.map (·.1) := by
  rw [List.map_set, h]
  apply List.ext_getElem?
  intro k
  rw [List.getElem?_set]
  split
  · rename_i hk; subst hk
    obtain ⟨hl, rfl⟩ := List.getElem?_eq_some_iff.1 hx
    simp [hl]
  · rfl
theorem ArrOk.set {l : List (Nat × SetM)} (ok : ArrOk l) {i : Nat} {x y : Nat × SetM} (hx : l[i]? = some x) (h : y.2.ways.length = x.2.ways.length) (hb : 0 ≤ y.2.bits ∧ y.2.bits < 256) : ArrOk (l.set i y) :=
  ⟨by simpa using ok.n, fun z hz => by
    rcases List.mem_or_eq_of_mem_set hz with hz | rfl
    · exact ok.k z hz
    · rw [h]; exact ok.k x (List.mem_of_getElem? hx), fun z hz => by
    rcases List.mem_or_eq_of_mem_set hz with hz | rfl
    · exact ok.b z hz
    · exact hb⟩
theorem ArrAt.way_ne {w : World} {A S : Nat} {l : List (Nat × SetM)} (h : ArrAt w A S l) {x : Nat × SetM} (hx : x ∈ l) : A ≠ x.1 ∧ S ≠ x.1 ∧ A ≠ S := by
  have hn := h.nodup
  simp only [List.nodup_cons, List.mem_cons] at hn
  refine ⟨fun e => hn.1 (.inr ?_), fun e => hn.2.1 ?_, fun e => hn.1 (.inl e)⟩ <;> (rw [e]; exact List.mem_map_of_mem (f := fun x : Nat × SetM => x.1) hx)
theorem ArrAt.inj {w : World} {A S : Nat} {l : List (Nat × SetM)} (h : ArrAt w A S l) {i j : Nat} {x y : Nat × SetM} (hx : l[i]? = some x) (hy : l[j]? = some y) (e : x.1 = y.1) : i = j := by
  have hn := h.nodup
  simp only [List.nodup_cons] at hn
  have hn2 := List.pairwise_iff_getElem.1 hn.2.2
  obtain ⟨hi, rfl⟩ := List.getElem?_eq_some_iff.1 hx
  obtain ⟨hj, rfl⟩ := List.getElem?_eq_some_iff.1 hy
  rcases Nat.lt_trichotomy i j with hl | hl | hl
  · exact absurd (by rw [List.getElem_map, List.getElem_map]; exact e) (hn2 i j (by simpa using hi) (by simpa using hj) hl)
  · exact hl
  · exact absurd (by rw [List.getElem_map, List.getElem_map]; exact e.symm) (hn2 j i (by simpa using hj) (by simpa using hi) hl)

/-- Behind a store of a way. -/
theorem ArrAt.setWay {w w' : World} {A S : Nat} {l : List (Nat × SetM)} (h : ArrAt w A S l) {i j : Nat} {x : Nat × SetM} (hx : l[i]? = some x) (e : Ent)
    (hf : Fr (fun k => k = x.1) w w') (hb : Blk w' x.1 32 (flat Ent.cells (x.2.ways.set j e))) : ArrAt w' A S (l.set i (wayUp x j e)) := by
  have hm : x ∈ l := List.mem_of_getElem? hx
  obtain ⟨n1, n2, _⟩ := h.way_ne hm
  refine ⟨?_, ?_, ?_, ?_⟩
  · simpa using h.arr.fr hf (fun e => n1 e)
  · have h2 := h.sets.fr hf (fun e => n2 e)
    rw [flat_same hx (a' := wayUp x j e) (by simp [wayUp, setCells])]; exact h2
  · intro y hy
    obtain ⟨k, hk⟩ := List.mem_iff_getElem?.1 hy
    rw [List.getElem?_set] at hk
    split at hk
    · rename_i hik; subst hik
      split at hk
      · cases hk; exact hb
      · cases hk
    · rename_i hik
      exact (h.ways y (List.mem_of_getElem? hk)).fr hf (fun e => hik (h.inj hk hx e).symm)
  · rw [map_fst_set hx (y := wayUp x j e) rfl]; exact h.nodup

/-- Behind a store of a set's bits. -/
theorem ArrAt.setBits {w w' : World} {A S : Nat} {l : List (Nat × SetM)} (h : ArrAt w A S l) {i : Nat} {x : Nat × SetM} (hx : l[i]? = some x) (b : Int)
    (hf : Fr (fun k => k = S) w w') (hb : Blk w' S 95 ((flat setCells l).set (i * 2) (.int .u8 b))) : ArrAt w' A S (l.set i (bitsUp x b)) := by
  have hm : x ∈ l := List.mem_of_getElem? hx
  obtain ⟨n1, n2, n3⟩ := h.way_ne hm
  refine ⟨?_, ?_, ?_, ?_⟩
  · simpa using h.arr.fr hf (fun e => n3 e)
  · rw [← flat_set setCells_length hx (k := 0) (by omega) (v := .int .u8 b) rfl]; exact hb
  · intro y hy
    rcases List.mem_or_eq_of_mem_set hy with hy | rfl
    · exact (h.ways y hy).fr hf (fun e => (h.way_ne hy).2.1 e.symm)
    · exact (h.ways x hm).fr hf (fun e => n2 e.symm)
  · rw [map_fst_set hx (y := bitsUp x b) rfl]; exact h.nodup

/-- The ten stores of an entry, told of the block. -/
theorem store_ent {w : World} {b t : Nat} {l : List Ent} (h : Blk w b t (flat Ent.cells l)) {j : Nat} (hj : j < l.length) (e : Ent) :
    Blk ((((((((((w.setCell ⟨b, j * 10, none⟩ (.int .i64 e.line)).setCell ⟨b, j * 10 + 1, none⟩ (.int .i64 e.state)).setCell ⟨b, j * 10 + 2, none⟩ (.int .i64 e.mode)).setCell ⟨b, j * 10 + 3, none⟩ (.int .i64 e.epoch)).setCell ⟨b, j * 10 + 4, none⟩ (.int .u32 e.d0)).setCell ⟨b, j * 10 + 5, none⟩ (.int .u32 e.d1)).setCell ⟨b, j * 10 + 6, none⟩ (.int .u32 e.d2)).setCell ⟨b, j * 10 + 7, none⟩ (.int .u32 e.d3)).setCell ⟨b, j * 10 + 8, none⟩ (.bool e.held)).setCell ⟨b, j * 10 + 9, none⟩ (.bool e.fresh)) b t (flat Ent.cells (l.set j e)) := by
  have h1 := ((((((((((h.set (j * 10) (.int .i64 e.line)).set (j * 10 + 1) (.int .i64 e.state)).set (j * 10 + 2) (.int .i64 e.mode)).set (j * 10 + 3) (.int .i64 e.epoch)).set (j * 10 + 4) (.int .u32 e.d0)).set (j * 10 + 5) (.int .u32 e.d1)).set (j * 10 + 6) (.int .u32 e.d2)).set (j * 10 + 7) (.int .u32 e.d3)).set (j * 10 + 8) (.bool e.held)).set (j * 10 + 9) (.bool e.fresh))
  rw [← flat_setRow Ent.cells_length hj e]
  exact h1
theorem store_ent_fr {w : World} {b : Nat} (j : Nat) (v0 v1 v2 v3 v4 v5 v6 v7 v8 v9 : Value) :
    Fr (fun k => k = b) w ((((((((((w.setCell ⟨b, j * 10, none⟩ v0).setCell ⟨b, j * 10 + 1, none⟩ v1).setCell ⟨b, j * 10 + 2, none⟩ v2).setCell ⟨b, j * 10 + 3, none⟩ v3).setCell ⟨b, j * 10 + 4, none⟩ v4).setCell ⟨b, j * 10 + 5, none⟩ v5).setCell ⟨b, j * 10 + 6, none⟩ v6).setCell ⟨b, j * 10 + 7, none⟩ v7).setCell ⟨b, j * 10 + 8, none⟩ v8).setCell ⟨b, j * 10 + 9, none⟩ v9) := by
  iterate 10 refine fr_set (.inl rfl) ?_
  exact Fr.refl _ _
end Go.Proofs.YtjmlficbnljiaaaDoor
