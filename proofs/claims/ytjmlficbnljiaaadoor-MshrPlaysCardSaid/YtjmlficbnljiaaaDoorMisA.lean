/- The machine's table of misses: New, Full, Get; the document's New. -/
import Derived.Test.YtjmlficbnljiaaaDoorMis
namespace Go.Proofs.YtjmlficbnljiaaaDoor
open Go.RowKit

def opMNew : ByteArray := ⟨#[109, 115, 104, 114, 46, 78, 101, 119]⟩
def opMAdd : ByteArray := ⟨#[109, 115, 104, 114, 46, 65, 100, 100]⟩

set_option maxHeartbeats 800000 in
theorem MNew_bad (most : Int) (h : most < 1 ∨ 8 < most) (w : World) (v : Value) (t : TypeId) (hc : w.cell? ⟨0, 0, none⟩ = some (.iface t v)) :
    Calls Tryd.prog 26 #[.int .i64 most] w fun e w' => e = .returned (.tuple #[.pointer none, errV opMNew most (.iface t v)]) ∧ w = w' := by
  rcases h with h | h
  · go_enter Tryd.func26, Tryd.ntmps26
    go_wp2_with fail
    refine (fault_Wrap _ _ _ _ _).mono ?_; rintro r w2 ⟨rfl, rfl⟩
    go_wp2_with fail
    go_ret2
    exact ⟨rfl, rfl⟩
  · have h1 : ¬ most < 1 := by omega
    go_enter Tryd.func26, Tryd.ntmps26
    go_wp2_with fail
    refine (fault_Wrap _ _ _ _ _).mono ?_; rintro r w2 ⟨rfl, rfl⟩
    go_wp2_with fail
    go_ret2
    exact ⟨rfl, rfl⟩
set_option maxHeartbeats 800000 in
theorem MNew_ok (most : Int) (h0 : 1 ≤ most) (h1 : most ≤ 8) (w : World) :
    Calls Tryd.prog 26 #[.int .i64 most] w fun e w' => ∃ T, e = .returned (.tuple #[.pointer (some ⟨T, 0, none⟩), .nilIface]) ∧ Below w.heap.size w w' ∧ TabAt w' T w.heap.size 114 85 most (.slice none 0 0) [] := by
  go_enter Tryd.func26, Tryd.ntmps26
  go_wp2_with fail
  go_ret2
  exact ⟨_, rfl, (Below.refl _ _).alloc (Nat.le_refl _) _, Blk.new _ _ _, World.ownsRow_nil _ _ _ _, by simp [Value.ownBlock], Nat.le_refl _⟩
set_option maxHeartbeats 800000 in
theorem RNew_bad (most : Int) (h : most < 1 ∨ 8 < most) (w : World) :
    Calls Tryd.prog 27 #[.int .i64 most] w fun e w' => e = .returned (.tuple #[.pointer none, .int .i64 1]) ∧ w = w' := by
  rcases h with h | h
  · go_enter Tryd.func27, Tryd.ntmps27
    go_wp2_with fail
    go_ret2
    exact ⟨rfl, rfl⟩
  · have h1 : ¬ most < 1 := by omega
    go_enter Tryd.func27, Tryd.ntmps27
    go_wp2_with fail
    go_ret2
    exact ⟨rfl, rfl⟩
set_option maxHeartbeats 800000 in
theorem RNew_ok (most : Int) (h0 : 1 ≤ most) (h1 : most ≤ 8) (w : World) :
    Calls Tryd.prog 27 #[.int .i64 most] w fun e w' => ∃ T, e = .returned (.tuple #[.pointer (some ⟨T, 0, none⟩), .int .i64 0]) ∧ Below w.heap.size w w' ∧ TabAt w' T w.heap.size 82 84 most (.slice none 0 0) [] := by
  go_enter Tryd.func27, Tryd.ntmps27
  go_wp2_with fail
  go_ret2
  exact ⟨_, rfl, (Below.refl _ _).alloc (Nat.le_refl _) _, Blk.new _ _ _, World.ownsRow_nil _ _ _ _, by simp [Value.ownBlock], Nat.le_refl _⟩

variable {w : World} {T B : Nat} {most : Int} {v : Value} {l : List Mis}

set_option maxHeartbeats 800000 in
theorem MFull_any (h : TabAt w T B 114 85 most v l) (_hl : l.length ≤ 8) :
    Calls Tryd.prog 37 #[.pointer (some ⟨T, 0, none⟩)] w fun e w' => e = .returned (.bool (decide (most ≤ l.length))) ∧ Below w.heap.size w w' := by
  obtain ⟨a, c, g, rfl, -, -⟩ := MisAt.of_own h.row
  obtain ⟨c0, c1⟩ := h.c0
  clear h
  go_enter Tryd.func37, Tryd.ntmps37
  go_wp2_with fail
  go_quiet (fail)
  have hB := below_drewN (Below.refl w.heap.size w) nq
  generalize w.drewN nq = w1 at *
  go_wp2_with fail
  go_ret
  exact ⟨rfl, hB⟩

def isMis (line : Int) (e : Mis) : Bool := e.line == line

set_option maxHeartbeats 400000 in
theorem known_fn (e : Mis) (line : Int) (L : Nat) (w : World) (hL : w.cell? ⟨L, 0, none⟩ = some (.int .i64 line)) :
    Calls Tryd.prog 77 #[e.val, .pointer (some ⟨L, 0, none⟩)] w fun r w' => r = .returned (.bool (isMis line e)) ∧ Below w.heap.size w w' := by
  have hl := block_lt_of_cell hL
  unfold Mis.val
  go_enter Tryd.func77, Tryd.ntmps77
  go_wp2
  all_goals
    go_ret
    exact ⟨by simp [isMis, *], (Below.refl _ _).alloc (Nat.le_refl _) _⟩
theorem callFunc_known : ∀ args w, (callFunc 77 args).run Tryd.prog w = .ok (.enter 77 args) w := fun _ _ => by kernel_rfl

set_option maxHeartbeats 800000 in
set_option maxRecDepth 10000 in
theorem index_mis (line : Int) (L : Nat) (a : Option Addr) (g c : Nat) (l : List Mis) (w : World) (hlen : l.length ≤ 8) (hm : MisAt w a g l) (hL : w.cell? ⟨L, 0, none⟩ = some (.int .i64 line)) :
   Calls Tryd.prog 76 #[.slice a l.length c, .func (.func 77) #[] #[.pointer (some ⟨L, 0, none⟩)]] w fun r w' => r = .returned (.int .i64 (idxOf (isMis line) l)) ∧ Below w.heap.size w w' := by
  have HL := Lib.hid hL
  have hlb := block_lt_of_cell hL
  have HA := Lib.hid hm; clear hm hL
  have hcf := callFunc_known
  go_enter Tryd.func76, Tryd.ntmps76
  go_wp2
  go_loopw [8] (fun i wr => ∃ k : Nat, k ≤ l.length ∧ i = .int .i64 k ∧ Below w.heap.size w wr ∧ ∀ j, j < k → ∀ e, l[j]? = some e → isMis line e = false) (fun i _ => l.length - (intOf i).toNat)
  case atStart => exact ⟨0, Nat.zero_le _, rfl, Below.refl _ _, fun j hj => by omega⟩
  case round =>
    obtain ⟨k, hk, rfl, hB, hno⟩ := hrel
    have HN := Lib.hid hno; clear hno
    by_cases hlt : k < l.length
    · obtain ⟨e, he⟩ : ∃ e, l[k]? = some e := ⟨l[k], by simp [hlt]⟩
      have HE := Lib.hid he; clear he
      obtain rfl := HA.out.addr (by rintro rfl; simp at hlt)
      obtain ⟨c0, c1⟩ := (HA.out.below hB (Nat.le_refl _)).two HE.out
      go_wp2_with fail
      refine (known_fn e line L _ (cell_below hB HL.out hlb)).mono ?_
      rintro r w2 ⟨rfl, hB2⟩
      have hB3 := hB.trans (hB2.mono hB.size)
      by_cases hp : isMis line e = true
      · have HP := Lib.hid hp
        go_wp2
        go_ret
        exact ⟨ret_int (idxOf_found HE.out HP.out HN.out).symm, hB3⟩
      · have hp' : isMis line e = false := by simpa using hp
        have HP := Lib.hid hp'
        clear hp
        go_wp2
        go_roundw
        case rel =>
          refine ⟨k + 1, by omega, by go_num, hB3, ?_⟩
          intro j hj e' he'
          rcases Nat.lt_succ_iff_lt_or_eq.1 hj with h | h
          · exact HN.out j h e' he'
          · subst h
            have := HE.out
            rw [this] at he'
            cases he'
            exact HP.out
        case measure => simp [intOf]; omega
    · obtain rfl : k = l.length := by omega
      go_wp2
      go_ret
      exact ⟨ret_int (idxOf_none HN.out).symm, hB⟩

set_option maxHeartbeats 800000 in
set_option maxRecDepth 10000 in
theorem known_any (h : TabAt w T B 114 85 most v l) (hl : l.length ≤ 8) (line : Int) :
    Calls Tryd.prog 57 #[.pointer (some ⟨T, 0, none⟩), .int .i64 line] w fun r w' => r = .returned (.int .i64 (idxOf (isMis line) l)) ∧ Below w.heap.size w w' := by
  obtain ⟨a, c, g, rfl, hm, -⟩ := MisAt.of_own h.row
  obtain ⟨c0, c1⟩ := h.c0
  have hT := h.t.lt
  have hTn : T ≠ w.heap.size := Nat.ne_of_lt hT
  have HM := Lib.hid hm
  clear h hm
  go_enter Tryd.func57, Tryd.ntmps57
  go_wp2_with fail
  refine (index_mis line w.heap.size a g c l _ hl (HM.out.below ((Below.refl _ _).alloc (Nat.le_refl _) _) (Nat.le_refl _)) (by simp)).mono ?_; rintro r w2 ⟨rfl, hB2⟩
  go_wp2_with fail
  go_ret
  exact ⟨rfl, ((Below.refl _ _).alloc (Nat.le_refl _) _).trans (hB2.mono (by simp))⟩

/-- What is under way for a line. -/
def mGet (l : List Mis) (line : Int) : Option Mis := l.find? (isMis line)

set_option maxHeartbeats 800000 in
set_option maxRecDepth 10000 in
theorem MGet_any (h : TabAt w T B 114 85 most v l) (hl : l.length ≤ 8) (line : Int) :
    Calls Tryd.prog 31 #[.pointer (some ⟨T, 0, none⟩), .int .i64 line] w fun r w' => r = .returned (.tuple #[.int .i64 ((mGet l line).getD Mis.zero).kind, .bool (mGet l line).isSome]) ∧ Below w.heap.size w w' := by
  have hk := known_any h hl line
  have HK := Lib.hid hk
  have hfi := find_idxOf (isMis line) l
  obtain ⟨a, c, g, rfl, hm, -⟩ := MisAt.of_own h.row
  have HT := Lib.hid h
  have HM := Lib.hid hm
  unfold mGet
  clear h hm hk
  by_cases hn : idxOf (isMis line) l < 0
  · rw [if_pos hn] at hfi
    rw [hfi]
    clear hfi
    go_enter Tryd.func31, Tryd.ntmps31
    go_wp2_with fail
    refine HK.out.mono ?_; rintro r w2 ⟨rfl, hB2⟩
    go_wp2_with fail
    go_ret2
    exact ⟨rfl, hB2⟩
  · rw [if_neg hn] at hfi
    obtain ⟨e, he, -⟩ := idxOf_pos (p := isMis line) (l := l) (by omega)
    rw [he] at hfi
    rw [hfi]
    have hjl := idxOf_lt (isMis line) l
    obtain ⟨j, hj⟩ := Int.eq_ofNat_of_zero_le (show 0 ≤ idxOf (isMis line) l by omega)
    rw [hj] at HK he hn hjl
    rw [Int.toNat_natCast] at he
    obtain rfl := HM.out.addr (by rintro rfl; simp at he)
    have HE := Lib.hid he
    have hjn : j < l.length := by simpa using hjl
    clear hfi he hjl
    go_enter Tryd.func31, Tryd.ntmps31
    go_wp2_with fail
    refine HK.out.mono ?_; rintro r w2 ⟨rfl, hB2⟩
    obtain ⟨c0, c1⟩ := (HT.out.below hB2).c0
    obtain ⟨d0, d1⟩ := (HM.out.below hB2 (Nat.le_refl _)).two HE.out
    go_wp2_with fail
    go_ret2
    exact ⟨rfl, hB2⟩
end Go.Proofs.YtjmlficbnljiaaaDoor
