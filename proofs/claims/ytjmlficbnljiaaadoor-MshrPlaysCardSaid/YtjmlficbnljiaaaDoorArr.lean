/- The array of a cache: its model, how it lies in memory, the walks that only read. -/
import Derived.Test.YtjmlficbnljiaaaDoorBase
import Derived.RegionTactic
import Derived.StillTailTactics
namespace Go.Proofs.YtjmlficbnljiaaaDoor
open Go.RowKit

structure Ent where
  (line state mode epoch : Int)
  (d0 d1 d2 d3 : Int)
  (held fresh : Bool)
  deriving DecidableEq

def Ent.cells (e : Ent) : List Value := [.int .i64 e.line, .int .i64 e.state, .int .i64 e.mode, .int .i64 e.epoch, .int .u32 e.d0, .int .u32 e.d1, .int .u32 e.d2, .int .u32 e.d3, .bool e.held, .bool e.fresh]
theorem Ent.cells_length (e : Ent) : e.cells.length = 10 := rfl
def Ent.val (e : Ent) : Value := .agg #[.int .i64 e.line, .int .i64 e.state, .int .i64 e.mode, .int .i64 e.epoch, .int .u32 e.d0, .int .u32 e.d1, .int .u32 e.d2, .int .u32 e.d3, .bool e.held, .bool e.fresh]
def Ent.zero : Ent := ⟨0, 0, 0, 0, 0, 0, 0, 0, false, false⟩

def idxOf {α : Type} (p : α → Bool) (l : List α) : Int := if l.findIdx p < l.length then (l.findIdx p : Int) else -1
theorem idxOf_found {α : Type} {p : α → Bool} {l : List α} {k : Nat} {a : α} (h : l[k]? = some a) (hp : p a = true) (hn : ∀ j, j < k → ∀ b, l[j]? = some b → p b = false) : idxOf p l = k := by
  obtain ⟨hk, rfl⟩ := List.getElem?_eq_some_iff.1 h
  have : l.findIdx p = k := by
    rw [List.findIdx_eq hk]
    exact ⟨hp, fun j hj => hn j hj _ (List.getElem?_eq_getElem (by omega))⟩
  simp [idxOf, this, hk]
theorem idxOf_none {α : Type} {p : α → Bool} {l : List α} (hn : ∀ j, j < l.length → ∀ b, l[j]? = some b → p b = false) : idxOf p l = -1 := by
  have : l.findIdx p = l.length := by
    rw [List.findIdx_eq_length]
    intro x hx
    obtain ⟨j, hj, rfl⟩ := List.getElem_of_mem hx
    exact hn j hj _ (List.getElem?_eq_getElem hj)
  simp [idxOf, this]
theorem idxOf_ge {α : Type} (p : α → Bool) (l : List α) : -1 ≤ idxOf p l := by unfold idxOf; split <;> omega
theorem idxOf_lt {α : Type} (p : α → Bool) (l : List α) : idxOf p l < l.length := by unfold idxOf; split <;> omega
theorem idxOf_pos {α : Type} {p : α → Bool} {l : List α} (h : 0 ≤ idxOf p l) : ∃ a, l[(idxOf p l).toNat]? = some a ∧ p a = true := by
  unfold idxOf at *
  by_cases hl : l.findIdx p < l.length
  · rw [if_pos hl] at *
    refine ⟨l[l.findIdx p], by simp [hl], List.findIdx_getElem⟩
  · rw [if_neg hl] at h; omega
theorem idxOf_neg {α : Type} {p : α → Bool} {l : List α} (h : idxOf p l < 0) : ∀ a ∈ l, p a = false := by
  unfold idxOf at h
  by_cases hl : l.findIdx p < l.length
  · rw [if_pos hl] at h; omega
  · intro a ha
    cases hp : p a with
    | false => rfl
    | true => exact absurd (List.findIdx_lt_length_of_exists ⟨a, ha, hp⟩) hl

/-- One set: its tree's bits, its ways. -/
structure SetM where
  bits : Int
  ways : List Ent

def setCells (x : Nat × SetM) : List Value := [.int .u8 x.2.bits, .slice (some ⟨x.1, 0, none⟩) x.2.ways.length x.2.ways.length]
theorem setCells_length (x : Nat × SetM) : (setCells x).length = 2 := rfl

/-- An array in memory: its struct at block A, its sets at S, each set's ways at the block beside it. -/
structure ArrAt (w : World) (A S : Nat) (l : List (Nat × SetM)) : Prop where
  arr : Blk w A 93 [.slice (some ⟨S, 0, none⟩) l.length l.length]
  sets : Blk w S 95 (flat setCells l)
  ways : ∀ x ∈ l, Blk w x.1 32 (flat Ent.cells x.2.ways)
  nodup : (A :: S :: l.map (·.1)).Nodup

def arrBlocks (A S : Nat) (l : List (Nat × SetM)) (k : Nat) : Prop := k = A ∨ k = S ∨ k ∈ l.map (·.1)

theorem ArrAt.fr {w w' : World} {A S : Nat} {l : List (Nat × SetM)} (h : ArrAt w A S l) {T : Nat → Prop} (hf : Fr T w w') (hT : ∀ k, arrBlocks A S l k → ¬ T k) : ArrAt w' A S l :=
  ⟨h.arr.fr hf (hT _ (.inl rfl)), h.sets.fr hf (hT _ (.inr (.inl rfl))), fun x hx => (h.ways x hx).fr hf (hT _ (.inr (.inr (List.mem_map_of_mem hx)))), h.nodup⟩
theorem ArrAt.below {w w' : World} {A S : Nat} {l : List (Nat × SetM)} (h : ArrAt w A S l) (hf : Below w.heap.size w w') : ArrAt w' A S l :=
  h.fr (T := fun _ => False) (Fr.of_below hf) (fun _ _ x => x)
theorem ArrAt.lt {w : World} {A S : Nat} {l : List (Nat × SetM)} (h : ArrAt w A S l) {k : Nat} (hk : arrBlocks A S l k) : k < w.heap.size := by
  rcases hk with rfl | rfl | hk
  · exact h.arr.lt
  · exact h.sets.lt
  · obtain ⟨x, hx, rfl⟩ := List.mem_map.1 hk; exact (h.ways x hx).lt
theorem ArrAt.bits {w : World} {A S : Nat} {l : List (Nat × SetM)} (h : ArrAt w A S l) {i : Nat} {x : Nat × SetM} (hx : l[i]? = some x) : w.cell? ⟨S, i * 2, none⟩ = some (.int .u8 x.2.bits) := by
  rw [h.sets.cell]; exact flat_get setCells_length hx (k := 0) (by omega)
theorem ArrAt.slice {w : World} {A S : Nat} {l : List (Nat × SetM)} (h : ArrAt w A S l) {i : Nat} {x : Nat × SetM} (hx : l[i]? = some x) : w.cell? ⟨S, i * 2 + 1, none⟩ = some (.slice (some ⟨x.1, 0, none⟩) x.2.ways.length x.2.ways.length) := by
  rw [h.sets.cell]; exact flat_get setCells_length hx (by omega)
theorem ArrAt.head {w : World} {A S : Nat} {l : List (Nat × SetM)} (h : ArrAt w A S l) : w.cell? ⟨A, 0, none⟩ = some (.slice (some ⟨S, 0, none⟩) l.length l.length) := h.arr.cell 0

/-- The ten cells of a way. -/
theorem ent_cells {w : World} {b t : Nat} {l : List Ent} (h : Blk w b t (flat Ent.cells l)) {i : Nat} {e : Ent} (he : l[i]? = some e) :
    w.cell? ⟨b, i * 10, none⟩ = some (.int .i64 e.line) ∧ w.cell? ⟨b, i * 10 + 1, none⟩ = some (.int .i64 e.state) ∧ w.cell? ⟨b, i * 10 + 2, none⟩ = some (.int .i64 e.mode)
    ∧ w.cell? ⟨b, i * 10 + 3, none⟩ = some (.int .i64 e.epoch) ∧ w.cell? ⟨b, i * 10 + 4, none⟩ = some (.int .u32 e.d0) ∧ w.cell? ⟨b, i * 10 + 5, none⟩ = some (.int .u32 e.d1)
    ∧ w.cell? ⟨b, i * 10 + 6, none⟩ = some (.int .u32 e.d2) ∧ w.cell? ⟨b, i * 10 + 7, none⟩ = some (.int .u32 e.d3) ∧ w.cell? ⟨b, i * 10 + 8, none⟩ = some (.bool e.held) ∧ w.cell? ⟨b, i * 10 + 9, none⟩ = some (.bool e.fresh) := by
  refine ⟨?_, ?_, ?_, ?_, ?_, ?_, ?_, ?_, ?_, ?_⟩ <;> rw [h.cell]
  · exact flat_get Ent.cells_length he (k := 0) (by omega)
  all_goals exact flat_get Ent.cells_length he (by omega)

def isLine (line : Int) (e : Ent) : Bool := (e.state != 0) && (e.line == line)
def isFree (e : Ent) : Bool := e.state == 0

set_option maxHeartbeats 400000 in
theorem find_fn (e : Ent) (line : Int) (L : Nat) (w : World) (hL : w.cell? ⟨L, 0, none⟩ = some (.int .i64 line)) :
    Calls Tryd.prog 62 #[e.val, .pointer (some ⟨L, 0, none⟩)] w fun r w' => r = .returned (.bool (isLine line e)) ∧ Below w.heap.size w w' := by
  have hl := block_lt_of_cell hL
  unfold Ent.val
  go_enter Tryd.func62, Tryd.ntmps62
  go_wp2
  all_goals
    go_ret
    exact ⟨by simp [isLine, *], (Below.refl _ _).alloc (Nat.le_refl _) _⟩

set_option maxHeartbeats 400000 in
theorem free_fn (e : Ent) (w : World) :
    Calls Tryd.prog 63 #[e.val] w fun r w' => r = .returned (.bool (isFree e)) ∧ Below w.heap.size w w' := by
  unfold Ent.val
  go_enter Tryd.func63, Tryd.ntmps63
  go_wp2
  all_goals
    go_ret
    exact ⟨by simp [isFree, *], (Below.refl _ _).alloc (Nat.le_refl _) _⟩

set_option maxHeartbeats 400000 in
set_option maxRecDepth 10000 in
theorem indexFunc_ent (cf : Nat) (cap : Array Value) (p : Ent → Bool) (l : List Ent) (b t c : Nat) (w : World) (hlen : l.length ≤ 8)
   (hblk : Blk w b t (flat Ent.cells l))
   (hcf : ∀ args w, (callFunc cf args).run Tryd.prog w = .ok (.enter cf args) w)
   (mk : Value → Array Value) (hmk : ∀ v, #[v] ++ cap = mk v)
   (hcall : ∀ (e : Ent) w1, Below w.heap.size w w1 → Calls Tryd.prog cf (mk e.val) w1 (fun r w2 => r = .returned (.bool (p e)) ∧ Below w1.heap.size w1 w2)) :
   Calls Tryd.prog 61 #[.slice (some ⟨b,0,none⟩) l.length c, .func (.func cf) #[] cap] w fun r w' => r = .returned (.int .i64 (idxOf p l)) ∧ Below w.heap.size w w' := by
  have hcall' : ∀ (e : Ent) w1, Below w.heap.size w w1 → Calls Tryd.prog cf (#[e.val] ++ cap) w1 (fun r w2 => r = .returned (.bool (p e)) ∧ Below w1.heap.size w1 w2) := fun e w1 h => by rw [hmk]; exact hcall e w1 h
  have HC := Lib.hid hcall'; clear hcall hcall' hmk
  have hb := hblk.lt
  have HA := Lib.hid hblk; clear hblk
  go_enter Tryd.func61, Tryd.ntmps61
  go_wp2
  go_loopw [8] (fun i wr => ∃ k : Nat, k ≤ l.length ∧ i = .int .i64 k ∧ Below w.heap.size w wr ∧ ∀ j, j < k → ∀ e, l[j]? = some e → p e = false) (fun i _ => l.length - (intOf i).toNat)
  case atStart => exact ⟨0, Nat.zero_le _, rfl, Below.refl _ _, fun j hj => by omega⟩
  case round =>
    obtain ⟨k, hk, rfl, hB, hno⟩ := hrel
    have HN := Lib.hid hno; clear hno
    by_cases hlt : k < l.length
    · obtain ⟨e, he⟩ : ∃ e, l[k]? = some e := ⟨l[k], by simp [hlt]⟩
      have HE := Lib.hid he; clear he
      obtain ⟨c0, c1, c2, c3, c4, c5, c6, c7, c8, c9⟩ := ent_cells (HA.out.below hB hb) HE.out
      go_wp2_with fail
      refine (HC.out e _ hB).mono ?_
      rintro r w2 ⟨rfl, hB2⟩
      have hB3 := hB.trans (hB2.mono hB.size)
      by_cases hp : p e = true
      · have HP := Lib.hid hp
        go_wp2
        go_ret
        exact ⟨ret_int (idxOf_found HE.out HP.out HN.out).symm, hB3⟩
      · have hp' : p e = false := by simpa using hp
        have HP := Lib.hid hp'
        clear hp
        go_wp2
        go_roundw
        case rel =>
          refine ⟨k + 1, by omega, by go_num, hB3, ?_⟩
          intro j hj e' he'
          rcases Nat.lt_succ_iff_lt_or_eq.1 hj with h | h
          · exact HN.out j h e' he'
          · subst h
            have := HE.out
            rw [this] at he'
            cases he'
            exact HP.out
        case measure => simp [intOf]; omega
    · obtain rfl : k = l.length := by omega
      go_wp2
      go_ret
      exact ⟨ret_int (idxOf_none HN.out).symm, hB⟩

theorem callFunc_find : ∀ args w, (callFunc 62 args).run Tryd.prog w = .ok (.enter 62 args) w := fun _ _ => by kernel_rfl
theorem callFunc_free : ∀ args w, (callFunc 63 args).run Tryd.prog w = .ok (.enter 63 args) w := fun _ _ => by kernel_rfl
end Go.Proofs.YtjmlficbnljiaaaDoor
