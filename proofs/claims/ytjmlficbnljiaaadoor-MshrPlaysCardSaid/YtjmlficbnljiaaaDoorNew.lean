/- The array's New. -/
import Derived.Test.YtjmlficbnljiaaaDoorArrU
namespace Go.Proofs.YtjmlficbnljiaaaDoor
open Go.RowKit

theorem isPow_pow8 {n : Int} (h : isPow n = true) : ∃ m : Nat, n = m ∧ pow8 m := by
  have hb : 1 ≤ n ∧ n ≤ 8 := by
    unfold isPow at h
    simp only [Bool.and_eq_true, decide_eq_true_eq] at h
    exact ⟨h.1, h.2.1⟩
  obtain ⟨m, rfl⟩ := Int.eq_ofNat_of_zero_le (a := n) (by omega)
  refine ⟨m, rfl, ?_⟩
  have : ∀ k : Fin 9, isPow ((k.val : Nat) : Int) = true → pow8 k.val := by unfold pow8; decide +kernel
  exact this ⟨m, by omega⟩ h

/-- What make lays: so many zero sets; so many zero entries. -/
def zSets (n : Nat) : List Value := flat (fun _ : Unit => [.int .u8 0, .slice none 0 0]) (List.replicate n ())
def zEnts (n : Nat) : List Value := flat Ent.cells (List.replicate n Ent.zero)
theorem make_sets (n : Nat) (hn : pow8 n) (w : World) : (Instr.makeSlice 91 (.int .i64 n) (.int .i64 n)).run Tryd.prog w = .ok (.slice (some ⟨w.heap.size, 0, none⟩) n n) (w.alloc (.cells (zSets n).toArray 95)) := by
  rcases hn with rfl | rfl | rfl | rfl <;> kernel_rfl
theorem make_ents (n : Nat) (hn : pow8 n) (w : World) : (Instr.makeSlice 61 (.int .i64 n) (.int .i64 n)).run Tryd.prog w = .ok (.slice (some ⟨w.heap.size, 0, none⟩) n n) (w.alloc (.cells (zEnts n).toArray 32)) := by
  rcases hn with rfl | rfl | rfl | rfl <;> kernel_rfl

/-- The sets in the middle of New: the first have their ways, the others none. -/
def midSet (x : Option Nat) (k : Nat) : List Value := match x with
  | some b => [.int .u8 0, .slice (some ⟨b, 0, none⟩) k k]
  | none => [.int .u8 0, .slice none 0 0]
theorem midSet_length (x : Option Nat) (k : Nat) : (midSet x k).length = 2 := by cases x <;> rfl

theorem zSets_eq (n k : Nat) : zSets n = flat (midSet · k) (List.replicate n none) := by
  unfold zSets flat
  induction n with
  | zero => rfl
  | succ n ih => simp only [List.replicate_succ, List.flatMap_cons, ih]; rfl
set_option maxHeartbeats 800000 in
set_option maxRecDepth 10000 in
theorem New_ok (n k : Nat) (hn : pow8 n) (hk : pow8 k) (w : World) :
    Calls Tryd.prog 6 #[.int .i64 n, .int .i64 k] w fun e w' => ∃ (A S : Nat) (l : List (Nat × SetM)), e = .returned (.tuple #[.pointer (some ⟨A, 0, none⟩), .nilIface]) ∧ ArrAt w' A S l ∧ Below w.heap.size w w' ∧ (∀ b, arrBlocks A S l b → w.heap.size ≤ b)
      ∧ l.map (·.2) = List.replicate n ⟨0, List.replicate k Ent.zero⟩ := by
  have HN := Lib.hid hn.isPow
  have HK := Lib.hid hk.isPow
  have n1 := hn.pos
  have n8 := hn.le
  have k1 := hk.pos
  have k8 := hk.le
  have hms := make_sets n hn
  have hme := make_ents k hk
  go_enter Tryd.func6, Tryd.ntmps6
  go_wp2_with fail
  refine (array_power _ _).mono ?_; rintro r w1 ⟨rfl, rfl⟩
  rw [HN.out]
  go_wp2_with fail
  refine (array_power _ _).mono ?_; rintro r w1 ⟨rfl, rfl⟩
  rw [HK.out]
  go_wp2_with fail
  go_loopw [27] (fun i wr => ∃ (j : Nat) (bs : List Nat), j ≤ n ∧ i = .int .i64 j ∧ bs.length = j ∧ Below w.heap.size w wr
      ∧ Blk wr (w.heap.size + 1) 93 [.slice (some ⟨w.heap.size, 0, none⟩) n n]
      ∧ Blk wr w.heap.size 95 (flat (midSet · k) (bs.map some ++ List.replicate (n - j) none))
      ∧ (∀ b ∈ bs, w.heap.size + 1 < b ∧ Blk wr b 32 (zEnts k)) ∧ bs.Nodup) (fun i _ => n - (intOf i).toNat)
  case atStart =>
    refine ⟨0, [], by omega, rfl, rfl, ?_, ?_, ?_, fun b hb => by simp at hb, List.nodup_nil⟩
    · exact ((Below.refl _ _).alloc (Nat.le_refl _) _).alloc (by simp) _
    · have h := Blk.new (w.alloc (.cells (zSets n).toArray 95)) #[.slice (some ⟨w.heap.size, 0, none⟩) n n] 93
      simpa using h
    · have h := (Blk.new w (zSets n).toArray 95).alloc (.cells #[.slice (some ⟨w.heap.size, 0, none⟩) n n] 93)
      have e : zSets n = flat (midSet · k) (([] : List Nat).map some ++ List.replicate (n - 0) none) := by
        rw [zSets_eq n k]; simp
      rw [← e]; simpa using h
  case round =>
    obtain ⟨j, bs, hj, rfl, hbl, hB, hA, hS, hW, hnd⟩ := hrel
    have HB := Lib.hid hB; clear hB
    have HW := Lib.hid hW; clear hW
    have HND := Lib.hid hnd; clear hnd
    have HBL := Lib.hid hbl; clear hbl
    have HS := Lib.hid hS
    have ca := hA.cell 0
    simp at ca
    have HA := Lib.hid hA
    have hfr := hS.free
    clear hA hS
    by_cases hlt : j < n
    · have hset : (bs.map some ++ List.replicate (n - j) none)[j]? = some none := by
        rw [List.getElem?_append_right (by simp [HBL.out])]
        have := HBL.out
        rw [List.length_map, this, Nat.sub_self, List.getElem?_replicate, if_pos (by omega)]
      have c1 : wr.cell? ⟨w.heap.size, j * 2 + 1, none⟩ = some (.slice none 0 0) := by
        rw [HS.out.cell]; exact flat_get (fun x => midSet_length x k) hset (by omega)
      have HSET := Lib.hid hset; clear hset
      have hlt1 := HA.out.lt
      have c2 : (wr.alloc (.cells (zEnts k).toArray 32)).cell? ⟨w.heap.size, j * 2 + 1, none⟩ = some (.slice none 0 0) := by
        rw [World.cell?_alloc_lt _ _ _ (by show w.heap.size < _; omega)]; exact c1
      have c3 : (wr.alloc (.cells (zEnts k).toArray 32)).frozen? ⟨w.heap.size, j * 2 + 1, none⟩ = false := by
        rw [World.frozen?_alloc_old _ _ _ (by show w.heap.size ≠ _; omega)]; exact hfr _
      clear c1 hfr
      go_wp2_with fail
      go_region
      go_wp2_with fail
      go_roundw
      case rel =>
        have hwl : w.heap.size + 1 < wr.heap.size := hlt1
        refine ⟨j + 1, bs ++ [wr.heap.size], by omega, by go_num, by simp [HBL.out], ?_, ?_, ?_, ?_, ?_⟩
        · exact ((HB.out.alloc HB.out.size _).setCell (Nat.le_refl _) _).drew
        · exact ((HA.out.alloc _).other (by show w.heap.size + 1 ≠ w.heap.size; omega) _).drew
        · have h := ((HS.out.alloc (.cells (zEnts k).toArray 32)).set (j * 2 + 1) (.slice (some ⟨wr.heap.size, 0, none⟩) k k)).drew
          rw [flat_set (fun x => midSet_length x k) HSET.out (by omega) (a' := some wr.heap.size) rfl] at h
          have e : (bs.map some ++ List.replicate (n - j) none).set j (some wr.heap.size) = (bs ++ [wr.heap.size]).map some ++ List.replicate (n - (j + 1)) none := by
            have := HBL.out
            rw [List.set_append_right _ _ (by simp [this]), List.length_map, this, Nat.sub_self, show n - j = (n - (j + 1)) + 1 by omega, List.replicate_succ]
            simp
          rw [e] at h
          exact h
        · intro b hb
          rcases List.mem_append.1 hb with hb | hb
          · obtain ⟨hb1, hb2⟩ := HW.out b hb
            exact ⟨hb1, ((hb2.alloc _).other (by show b ≠ w.heap.size; omega) _).drew⟩
          · obtain rfl : b = wr.heap.size := by simpa using hb
            refine ⟨hwl, ?_⟩
            have h := Blk.new wr (zEnts k).toArray 32
            exact (h.other (by show wr.heap.size ≠ w.heap.size; omega) _).drew
        · refine List.nodup_append.2 ⟨HND.out, List.nodup_cons.2 ⟨by simp, List.nodup_nil⟩, ?_⟩
          intro x hx y hy e
          obtain rfl : y = wr.heap.size := by simpa using hy
          have := (HW.out x hx).2.lt
          omega
      case measure => simp [intOf]; omega
    · obtain rfl : j = n := by omega
      go_wp2_with fail
      go_ret2
      refine ⟨w.heap.size + 1, w.heap.size, bs.map fun b => (b, ⟨0, List.replicate k Ent.zero⟩), rfl, ?_, HB.out, ?_, ?_⟩
      · have hbl := HBL.out
        refine ⟨by simpa [hbl] using HA.out, ?_, ?_, ?_⟩
        · have h := HS.out
          have e : flat (midSet · k) (bs.map some ++ List.replicate (j - j) none) = flat setCells (bs.map fun b => (b, ⟨0, List.replicate k Ent.zero⟩)) := by
            simp only [Nat.sub_self, List.replicate_zero, List.append_nil, flat, List.flatMap_def, List.map_map]
            congr 1
            apply List.map_congr_left
            intro b _
            simp [midSet, setCells]
          rw [e] at h
          exact h
        · intro x hx
          obtain ⟨b, hb, rfl⟩ := List.mem_map.1 hx
          exact (HW.out b hb).2
        · simp only [List.map_map, List.nodup_cons, List.mem_cons]
          have e : List.map ((fun x : Nat × SetM => x.1) ∘ fun b => (b, (⟨0, List.replicate k Ent.zero⟩ : SetM))) bs = bs := by simp [Function.comp_def]
          rw [e]
          refine ⟨?_, fun h => ?_, HND.out⟩
          · rintro (h | h)
            · omega
            · have := (HW.out _ h).1; omega
          · have := (HW.out _ h).1; omega
      · intro b hb
        rcases hb with rfl | rfl | hb
        · omega
        · exact Nat.le_refl _
        · simp only [List.map_map] at hb
          have e : List.map ((fun x : Nat × SetM => x.1) ∘ fun b => (b, (⟨0, List.replicate k Ent.zero⟩ : SetM))) bs = bs := by simp [Function.comp_def]
          rw [e] at hb
          have := (HW.out _ hb).1; omega
      · simp only [List.map_map]
        have hbl := HBL.out
        apply List.ext_getElem?
        intro i
        simp [List.getElem?_replicate]
        by_cases hi : i < j
        · rw [if_pos hi]
          rw [List.getElem?_eq_getElem (by omega)]; rfl
        · rw [if_neg hi, List.getElem?_eq_none (by omega)]; rfl
end Go.Proofs.YtjmlficbnljiaaaDoor
