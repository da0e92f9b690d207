/- What assentkeep tells of errors: Error, Is, Only; the package variables that all this leans on. -/
import Derived.Test.YtjmlficbnljiaaaDoorErrAs
namespace Go.Proofs.YtjmlficbnljiaaaDoor
open Go.RowKit

/-- The variable of a code. -/
def gIx : Nat → Nat
  | 1 => 0
  | 2 => 3
  | 3 => 4
  | 4 => 5
  | 5 => 6
  | 6 => 1
  | 7 => 2
  | 8 => 7
  | 9 => 8
  | _ => 9

/-- The package variables: ten sentinels, all different, and errors' own handle. -/
structure Glob (w : World) (p : Nat → Addr) : Prop where
  cell : ∀ c, 1 ≤ c → c ≤ 10 → w.cell? ⟨gIx c, 0, none⟩ = some (sentV (p c))
  blk : ∀ c, 1 ≤ c → c ≤ 10 → ∃ ca ta, w.heap[(p c).block]? = some (.cells ca ta (0, 0))
  inj : ∀ c d, 1 ≤ c → c ≤ 10 → 1 ≤ d → d ≤ 10 → p c = p d → c = d
  et : w.cell? ⟨10, 0, none⟩ = some (.iface 144 (.agg #[.pointer (some ⟨11, 25, none⟩)]))

theorem Glob.below {w w' : World} {p : Nat → Addr} {B : Nat} (h : Glob w p) (hb : Below B w w') (hB : w.heap.size ≤ B) : Glob w' p :=
  ⟨fun c h1 h2 => cell_below hb (h.cell c h1 h2) (Nat.lt_of_lt_of_le (block_lt_of_cell (h.cell c h1 h2)) hB),
   fun c h1 h2 => by
    obtain ⟨ca, ta, hc⟩ := h.blk c h1 h2
    exact ⟨ca, ta, (hb.block _ (Nat.lt_of_lt_of_le (lt_of_block hc) hB)).trans hc⟩,
   h.inj, cell_below hb h.et (Nat.lt_of_lt_of_le (block_lt_of_cell h.et) hB)⟩

/-- The same, where some blocks may have turned, none of them old. -/
theorem Glob.fr {w w' w0 : World} {p : Nat → Addr} (h : Glob w0 p) (hb : Below w0.heap.size w0 w) (hb' : Below w0.heap.size w w') : Glob w' p := h.below (hb.trans hb') (Nat.le_refl _)

set_option maxHeartbeats 1000000 in
theorem keep_Error (c : Nat) (h1 : 1 ≤ c) (h2 : c ≤ 10) (w : World) (p : Nat → Addr) (hg : Glob w p) :
    Calls Tryd.prog 47 #[.int .i64 c] w fun e w' => e = .returned (sentV (p c)) ∧ w = w' := by
  have hc := hg.cell c h1 h2
  clear hg
  rcases (show c = 1 ∨ c = 2 ∨ c = 3 ∨ c = 4 ∨ c = 5 ∨ c = 6 ∨ c = 7 ∨ c = 8 ∨ c = 9 ∨ c = 10 by omega) with rfl | rfl | rfl | rfl | rfl | rfl | rfl | rfl | rfl | rfl
  all_goals
    simp only [gIx] at hc
    go_enter Tryd.func47, Tryd.ntmps47
    go_wp2
    go_ret
    exact ⟨rfl, rfl⟩

/-- An error of a code; nil of 0. -/
def codeErr (p : Nat → Addr) (op : ByteArray) (at_ : Int) (c : Nat) : Value := if c = 0 then .nilIface else errV op at_ (sentV (p c))

set_option maxHeartbeats 1000000 in
theorem keep_Is_zero (op : ByteArray) (at_ : Int) (w : World) :
    Calls Tryd.prog 14 #[.nilIface, .int .i64 0, .string op, .int .i64 at_] w fun e w' => e = .returned (.bool true) ∧ Below w.heap.size w w' := by
  go_enter Tryd.func14, Tryd.ntmps14
  go_wp2
  go_ret
  exact ⟨rfl, Below.refl _ _⟩

abbrev faultObj : Obj := .cells #[.string { data := #[] }, .int .i64 0, .nilIface] 103

set_option maxHeartbeats 2000000 in
set_option maxRecDepth 20000 in
theorem keep_Is_code (op : ByteArray) (at_ : Int) (c : Nat) (h1 : 1 ≤ c) (h2 : c ≤ 10) (w : World) (p : Nat → Addr) (hg : Glob w p) :
    Calls Tryd.prog 14 #[errV op at_ (sentV (p c)), .int .i64 c, .string op, .int .i64 at_] w fun e w' => e = .returned (.bool true) ∧ Below w.heap.size w w' := by
  have hc0 : ((c : Int) == 0) = false := by simp; omega
  have HG := Lib.hid hg; clear hg
  go_enter Tryd.func14, Tryd.ntmps14
  go_wp2_with fail
  refine (keep_Error c h1 h2 _ p (HG.out.below ((Below.refl _ _).alloc (Nat.le_refl _) _) (Nat.le_refl _))).mono ?_; rintro r w1 ⟨rfl, rfl⟩
  go_wp2_with fail
  refine (is_fault_same op at_ (p c) _).mono ?_; rintro r w2 ⟨rfl, hB2⟩
  have hB2' : Below w.heap.size w w2 := ((Below.refl _ _).alloc (Nat.le_refl _) _).trans (hB2.mono (by simp))
  have hF : Blk w2 w.heap.size 103 [.string { data := #[] }, .int .i64 0, .nilIface] := (Blk.new w #[.string { data := #[] }, .int .i64 0, .nilIface] 103).below hB2 (by simp)
  have HF := Lib.hid hF; clear hF
  have HB2 := Lib.hid hB2'; clear hB2 hB2'
  go_wp2_with fail
  refine (as_fault op at_ (sentV (p c)) w.heap.size _ _ _ w2 rfl (HG.out.below HB2.out (Nat.le_refl _)).et HF.out).mono ?_; rintro r w3 ⟨rfl, hw3⟩
  have hF3 : Blk w3 w.heap.size 103 [.string op, .int .i64 at_, sentV (p c)] := by
    subst hw3
    exact setRow_heap _ _ _ _ _ _ ((((HF.out.alloc _).alloc _).alloc _).alloc _)
  have hB3 : Below w.heap.size w w3 := by
    subst hw3
    refine HB2.out.trans ⟨rfl, rfl, rfl, by simp; omega, fun k hk => ?_⟩
    rw [setRow_other _ _ _ _ (by omega)]
    have hz := HB2.out.size
    exact ((((Below.refl w2.heap.size w2).alloc (Nat.le_refl _) _).alloc (by simp) _).alloc (by simp; omega) _ |>.alloc (by simp; omega) _).block k (by omega)
  have c0 := hF3.cell 0
  have c1 := hF3.cell 1
  simp at c0 c1
  clear hw3 hF3
  have HB3 := Lib.hid hB3; clear hB3
  go_wp2_with fail
  go_ret
  exact ⟨rfl, HB3.out⟩

theorem keep_Is (op : ByteArray) (at_ : Int) (c : Nat) (h2 : c ≤ 10) (w : World) (p : Nat → Addr) (hg : Glob w p) :
    Calls Tryd.prog 14 #[codeErr p op at_ c, .int .i64 c, .string op, .int .i64 at_] w fun e w' => e = .returned (.bool true) ∧ Below w.heap.size w w' := by
  unfold codeErr
  by_cases h : c = 0
  · subst h; exact keep_Is_zero op at_ w
  · rw [if_neg h]; exact keep_Is_code op at_ c (by omega) h2 w p hg

/-- errors.Is of a code's error and a sentinel. -/
theorem is_code (op : ByteArray) (at_ : Int) (c k : Nat) (h2 : c ≤ 10) (k1 : 1 ≤ k) (k2 : k ≤ 10) (w : World) (p : Nat → Addr) (hg : Glob w p) :
    Calls Tryd.prog 46 #[codeErr p op at_ c, sentV (p k)] w fun e w' => e = .returned (.bool ((k : Int) == (c : Int))) ∧ Below w.heap.size w w' := by
  unfold codeErr
  by_cases h : c = 0
  · subst h
    rw [if_pos rfl]
    refine (is_nil _ _).mono ?_
    rintro e w' ⟨rfl, rfl⟩
    exact ⟨ret_bool (by simp; omega), Below.refl _ _⟩
  · rw [if_neg h]
    by_cases hk : k = c
    · subst hk
      refine (is_fault_same op at_ _ _).mono ?_
      rintro e w' ⟨rfl, hB⟩
      exact ⟨ret_bool (by simp), hB⟩
    · obtain ⟨ca, ta, ha⟩ := hg.blk c (by omega) h2
      obtain ⟨cb, tb, hb⟩ := hg.blk k k1 k2
      refine (is_fault_other op at_ _ _ _ _ _ _ _ (fun e => hk (hg.inj c k (by omega) h2 k1 k2 e).symm) ha hb).mono ?_
      rintro e w' ⟨rfl, hB⟩
      exact ⟨ret_bool (by simp; omega), hB⟩

set_option maxHeartbeats 2000000 in
set_option maxRecDepth 20000 in
theorem keep_Only (op : ByteArray) (at_ : Int) (c : Nat) (h2 : c ≤ 10) (w : World) (p : Nat → Addr) (hg : Glob w p) :
    Calls Tryd.prog 30 #[codeErr p op at_ c, .int .i64 c] w fun e w' => e = .returned (.bool true) ∧ Below w.heap.size w w' := by
  have HG := Lib.hid hg; clear hg
  go_enter Tryd.func30, Tryd.ntmps30
  go_wp2
  go_loopw [5] (fun i wr => ∃ k : Nat, 1 ≤ k ∧ k ≤ 11 ∧ i = .int .i64 k ∧ Below w.heap.size w wr) (fun i _ => 11 - (intOf i).toNat)
  case atStart => exact ⟨1, by omega, by omega, rfl, Below.refl _ _⟩
  case round =>
    obtain ⟨k, k1, k2, rfl, hB⟩ := hrel
    have HB := Lib.hid hB; clear hB
    by_cases hlt : k ≤ 10
    · go_wp2_with fail
      refine (keep_Error k k1 hlt _ p (HG.out.below HB.out (Nat.le_refl _))).mono ?_; rintro r w1 ⟨rfl, rfl⟩
      go_wp2_with fail
      refine (is_code op at_ c k h2 k1 hlt _ p (HG.out.below HB.out (Nat.le_refl _))).mono ?_; rintro r w2 ⟨rfl, hB2⟩
      have hB3 := HB.out.trans (hB2.mono HB.out.size)
      clear hB2
      go_wp2_with fail
      go_roundw
      case rel => exact ⟨k + 1, by omega, by omega, by go_num, hB3⟩
      case measure => simp [intOf]; omega
    · obtain rfl : k = 11 := by omega
      by_cases h0 : c = 0
      · subst h0
        simp only [codeErr, if_true]
        go_wp2_with fail
        go_ret
        exact ⟨rfl, HB.out⟩
      · have hc0 : ((c : Int) == 0) = false := by simp; omega
        have e0 : codeErr p op at_ c = errV op at_ (sentV (p c)) := by simp [codeErr, h0]
        rw [e0]
        clear e0 h0
        go_wp2_with fail
        go_ret
        exact ⟨rfl, HB.out⟩
end Go.Proofs.YtjmlficbnljiaaaDoor
