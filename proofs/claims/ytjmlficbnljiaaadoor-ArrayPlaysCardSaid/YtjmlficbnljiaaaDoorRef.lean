/- The document's own array: how it lies in memory; among, find, Get, Room. -/
import Derived.Test.YtjmlficbnljiaaaDoorArrAny
import Derived.Test.YtjmlficbnljiaaaDoorRefP
namespace Go.Proofs.YtjmlficbnljiaaaDoor
open Go.RowKit

/-- The document's array: its struct at R, the rows' slices at E, the bits at B, each row at a block of its own. -/
structure RefAt (w : World) (R E B cE k : Nat) (l : List (Nat × SetM)) : Prop where
  arr : Blk w R 60 [.int .i64 l.length, .int .i64 k, .slice (some ⟨E, 0, none⟩) l.length cE, .slice (some ⟨B, 0, none⟩) l.length l.length]
  rows : ∀ (i : Nat) x, l[i]? = some x → w.cell? ⟨E, i, none⟩ = some (.slice (some ⟨x.1, 0, none⟩) k k)
  len : ∀ x ∈ l, x.2.ways.length = k
  eLt : E < w.heap.size
  bits : Blk w B 5 (l.map fun x => .int .u8 x.2.bits)
  ways : ∀ x ∈ l, Blk w x.1 50 (flat Ent.cells x.2.ways)
  nodup : (R :: E :: B :: l.map (·.1)).Nodup
  n : pow8 l.length
  kk : pow8 k
  b : ∀ x ∈ l, 0 ≤ x.2.bits ∧ x.2.bits < 256

def refBlocks (R E B : Nat) (l : List (Nat × SetM)) (k : Nat) : Prop := k = R ∨ k = E ∨ k = B ∨ k ∈ l.map (·.1)
theorem refBlocks_map {R E B : Nat} {l l' : List (Nat × SetM)} (h : l'.map (·.1) = l.map (·.1)) (k : Nat) : refBlocks R E B l' k ↔ refBlocks R E B l k := by unfold refBlocks; rw [h]

theorem RefAt.lt {w : World} {R E B cE k : Nat} {l : List (Nat × SetM)} (h : RefAt w R E B cE k l) {q : Nat} (hq : refBlocks R E B l q) : q < w.heap.size := by
  rcases hq with rfl | rfl | rfl | hq
  · exact h.arr.lt
  · exact h.eLt
  · exact h.bits.lt
  · obtain ⟨x, hx, rfl⟩ := List.mem_map.1 hq; exact (h.ways x hx).lt
theorem RefAt.fr {w w' : World} {R E B cE k : Nat} {l : List (Nat × SetM)} (h : RefAt w R E B cE k l) {T : Nat → Prop} (hf : Fr T w w') (hT : ∀ q, refBlocks R E B l q → ¬ T q) : RefAt w' R E B cE k l :=
  ⟨h.arr.fr hf (hT _ (.inl rfl)), fun i x hx => hf.cell (h.rows i x hx) (hT _ (.inr (.inl rfl))), h.len, Nat.lt_of_lt_of_le h.eLt hf.size,
   h.bits.fr hf (hT _ (.inr (.inr (.inl rfl)))), fun x hx => (h.ways x hx).fr hf (hT _ (.inr (.inr (.inr (List.mem_map_of_mem hx))))), h.nodup, h.n, h.kk, h.b⟩
theorem RefAt.below {w w' : World} {R E B cE k : Nat} {l : List (Nat × SetM)} (h : RefAt w R E B cE k l) (hf : Below w.heap.size w w') : RefAt w' R E B cE k l :=
  h.fr (T := fun _ => False) (Fr.of_below hf) (fun _ _ x => x)
theorem RefAt.c0 {w : World} {R E B cE k : Nat} {l : List (Nat × SetM)} (h : RefAt w R E B cE k l) :
    w.cell? ⟨R, 0, none⟩ = some (.int .i64 l.length) ∧ w.cell? ⟨R, 1, none⟩ = some (.int .i64 k) ∧ w.cell? ⟨R, 2, none⟩ = some (.slice (some ⟨E, 0, none⟩) l.length cE) ∧ w.cell? ⟨R, 3, none⟩ = some (.slice (some ⟨B, 0, none⟩) l.length l.length) :=
  ⟨h.arr.cell 0, h.arr.cell 1, h.arr.cell 2, h.arr.cell 3⟩
theorem RefAt.bit {w : World} {R E B cE k : Nat} {l : List (Nat × SetM)} (h : RefAt w R E B cE k l) {i : Nat} {x : Nat × SetM} (hx : l[i]? = some x) : w.cell? ⟨B, i, none⟩ = some (.int .u8 x.2.bits) := by
  rw [h.bits.cell]; simp [hx]

def isR (line : Int) (e : Ent) : Bool := e.line == line
def isRFree (e : Ent) : Bool := decide (e.line < 0)

set_option maxHeartbeats 800000 in
set_option maxRecDepth 10000 in
theorem among_ints (w : World) (a : Option Addr) (b o c : Nat) (l : List Int) (v : Int) (h : IntsAt w a b o l) (hl : l.length ≤ 1000) :
    Calls Tryd.prog 54 #[.int .i64 v, .slice a l.length c] w fun e w' => e = .returned (.bool (hasInt v l)) ∧ w = w' := by
  by_cases hn : l = []
  · subst hn
    go_enter Tryd.func54, Tryd.ntmps54
    go_wp2
    refine wp_loop_rounds 1 ?_
    rw [rounds_succ]
    go_wp2
    go_ret
    exact ⟨ret_bool (by rfl), rfl⟩
  · obtain rfl := h.addr hn
    have HC := Lib.hid h.cell
    clear h hn
    go_enter Tryd.func54, Tryd.ntmps54
    go_wp2
    go_loop [9] (fun i => ∃ k : Nat, k ≤ l.length ∧ i = .int .i64 k ∧ ∀ j, j < k → ∀ x, l[j]? = some x → (v == x) = false) (fun i => l.length - (intOf i).toNat)
    case atStart => exact ⟨0, Nat.zero_le _, rfl, fun j hj => by omega⟩
    case round =>
      obtain ⟨k, hk, rfl, hno⟩ := hrel
      have HN := Lib.hid hno; clear hno
      by_cases hlt : k < l.length
      · obtain ⟨x, hx⟩ : ∃ x, l[k]? = some x := ⟨l[k], by simp [hlt]⟩
        have hc := HC.out k x hx
        have HX := Lib.hid hx; clear hx
        by_cases hv : x = v
        · have HV := Lib.hid hv
          go_wp2
          go_ret
          refine ⟨ret_bool ?_, rfl⟩
          have := HX.out
          exact ((hasInt_iff v l).2 (HV.out ▸ List.mem_of_getElem? this)).symm
        · have HV := Lib.hid hv
          have hv2 : (x == v) = false := by simpa using hv
          clear hv
          go_wp2
          go_round
          case rel =>
            refine ⟨k + 1, by omega, by go_num, ?_⟩
            intro j hj y hy
            rcases Nat.lt_succ_iff_lt_or_eq.1 hj with h | h
            · exact HN.out j h y hy
            · subst h
              have := HX.out
              rw [this] at hy
              cases hy
              have := HV.out
              simp; omega
          case measure => simp [intOf]; omega
      · obtain rfl : k = l.length := by omega
        go_wp2
        go_ret
        refine ⟨ret_bool ?_, rfl⟩
        have : ¬ hasInt v l = true := fun h => by
          have hm := (hasInt_iff v l).1 h
          obtain ⟨j, hj⟩ := List.mem_iff_getElem?.1 hm
          have := HN.out j (List.getElem?_eq_some_iff.1 hj).1 v hj
          simp at this
        have h2 : hasInt v l = false := by simpa using this
        exact h2.symm

set_option maxHeartbeats 800000 in
set_option maxRecDepth 10000 in
theorem rfind_in {w : World} {R E B cE k : Nat} {l : List (Nat × SetM)} (h : RefAt w R E B cE k l) (line : Int) (h0 : 0 ≤ line) (h1 : line ≤ 31) (i : Nat) (hi : i = line.toNat % l.length) (x : Nat × SetM) (hx : l[i]? = some x) :
    Calls Tryd.prog 49 #[.pointer (some ⟨R, 0, none⟩), .int .i64 line] w fun e w' => e = .returned (.tuple #[.int .i64 i, .int .i64 (idxOf (isR line) x.2.ways)]) ∧ w = w' := by
  obtain ⟨c0, c1, c2, c3⟩ := h.c0
  have cr := h.rows i x hx
  have hm : x ∈ l := List.mem_of_getElem? hx
  have hk8 := h.kk.le
  have hn8 := h.n.le
  have hn1 := h.n.pos
  have HL := Lib.hid (h.len x hm)
  have HW := Lib.hid (h.ways x hm)
  have hil : i < l.length := (List.getElem?_eq_some_iff.1 hx).1
  have hmod : line.tmod (l.length : Int) = (i : Int) := by
    obtain ⟨m, rfl⟩ := Int.eq_ofNat_of_zero_le h0
    subst hi
    rw [Int.tmod_eq_emod_of_nonneg (Int.natCast_nonneg m)]
    simp
  have hne2 : ¬ (l.length : Int) = 0 := by omega
  have hne : ((l.length : Int) == 0) = false := by rw [beq_eq_false_iff_ne]; exact hne2
  clear h hx hi
  go_enter Tryd.func49, Tryd.ntmps49
  go_wp2_with fail
  go_loop [7] (fun i => ∃ j : Nat, j ≤ k ∧ i = .int .i64 j ∧ ∀ q, q < j → ∀ e, x.2.ways[q]? = some e → isR line e = false) (fun i => k - (intOf i).toNat)
  case atStart => exact ⟨0, Nat.zero_le _, rfl, fun j hj => by omega⟩
  case round =>
    obtain ⟨j, hj, rfl, hno⟩ := hrel
    have HN := Lib.hid hno; clear hno
    have hL := HL.out
    by_cases hlt : j < k
    · obtain ⟨e, he⟩ : ∃ e, x.2.ways[j]? = some e := ⟨_, List.getElem?_eq_getElem (by omega)⟩
      have HE := Lib.hid he; clear he
      have d0 := (ent_cells HW.out HE.out).1
      clear hL
      by_cases hv : e.line = line
      · have HV := Lib.hid hv
        go_wp2
        go_ret2
        refine ⟨?_, rfl⟩
        rw [idxOf_found HE.out (by simp [isR, HV.out]) HN.out]
        rfl
      · have HV := Lib.hid hv
        have hv2 : (e.line == line) = false := by simpa using hv
        clear hv
        go_wp2
        go_round
        case rel =>
          refine ⟨j + 1, by omega, by go_num, ?_⟩
          intro q hq y hy
          rcases Nat.lt_succ_iff_lt_or_eq.1 hq with h | h
          · exact HN.out q h y hy
          · subst h
            have := HE.out
            rw [this] at hy
            cases hy
            simpa [isR] using HV.out
        case measure => simp [intOf]; omega
    · obtain rfl : j = k := by omega
      clear hL
      go_wp2
      go_ret2
      refine ⟨?_, rfl⟩
      rw [idxOf_none (fun q hq y hy => HN.out q (by have := HL.out; omega) y hy)]
      rfl

set_option maxHeartbeats 800000 in
theorem rfind_out {w : World} {R : Nat} (line : Int) (h : line < 0 ∨ 31 < line) :
    Calls Tryd.prog 49 #[.pointer (some ⟨R, 0, none⟩), .int .i64 line] w fun e w' => e = .returned (.tuple #[.int .i64 0, .int .i64 (-1)]) ∧ w = w' := by
  rcases h with h | h
  all_goals
    go_enter Tryd.func49, Tryd.ntmps49
    go_wp2
    go_ret2
    exact ⟨rfl, rfl⟩

theorem rfind_any {w : World} {R E B cE k : Nat} {l : List (Nat × SetM)} (h : RefAt w R E B cE k l) (line : Int) :
    Calls Tryd.prog 49 #[.pointer (some ⟨R, 0, none⟩), .int .i64 line] w fun e w' => (match arrSet l line with
      | none => e = .returned (.tuple #[.int .i64 0, .int .i64 (-1)])
      | some (i, x) => e = .returned (.tuple #[.int .i64 i, .int .i64 (idxOf (isR line) x.2.ways)])) ∧ w = w' := by
  cases hs : arrSet l line with
  | none =>
    refine rfind_out line ?_
    unfold arrSet at hs
    split at hs
    · have := Nat.mod_lt line.toNat h.n.pos
      simp at hs; omega
    · omega
  | some p =>
    obtain ⟨i, x⟩ := p
    obtain ⟨h0, h1, hi, hx⟩ := arrSet_some hs
    refine rfind_in h line h0 h1 i ?_ x hx
    unfold setIx at hi
    rw [if_pos ⟨h0, h1⟩] at hi
    obtain ⟨m, rfl⟩ := Int.eq_ofNat_of_zero_le h0
    simp at hi ⊢
    omega
end Go.Proofs.YtjmlficbnljiaaaDoor
