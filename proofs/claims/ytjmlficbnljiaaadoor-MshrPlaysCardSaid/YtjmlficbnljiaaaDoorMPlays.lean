/- The walk of assentlaw7.MshrPlays: whatever is asked, the table and the document's own answer the same. -/
import Derived.Test.YtjmlficbnljiaaaDoorMRuns
namespace Go.Proofs.YtjmlficbnljiaaaDoor
open Go.RowKit

/-- A call that is asked for. -/
structure Ask7 where
  (kind line miss : Int)
def Ask7.cells (q : Ask7) : List Value := [.int .i64 q.kind, .int .i64 q.line, .int .i64 q.miss]
structure Asks7At (w : World) (a : Option Addr) (b o : Nat) (l : List Ask7) : Prop where
  addr : l ≠ [] → a = some ⟨b, o, none⟩
  cell : ∀ (i : Nat) (q : Ask7), l[i]? = some q → ∀ j, j < 3 → w.cell? ⟨b, o + i * 3 + j, none⟩ = q.cells[j]?
  lt : l ≠ [] → b < w.heap.size
theorem Asks7At.below {w w' : World} {a : Option Addr} {b o B : Nat} {l : List Ask7} (h : Asks7At w a b o l) (hb : Below B w w') (hB : w.heap.size ≤ B) : Asks7At w' a b o l :=
  ⟨h.addr, fun i q hq j hj => by
    have hn : l ≠ [] := by rintro rfl; simp at hq
    rw [hb.cell (by exact Nat.lt_of_lt_of_le (h.lt hn) hB)]; exact h.cell i q hq j hj, fun hn => Nat.lt_of_lt_of_le (h.lt hn) hb.size⟩
theorem Asks7At.open {w : World} {a : Option Addr} {b o : Nat} {l : List Ask7} (h : Asks7At w a b o l) {i : Nat} {q : Ask7} (hq : l[i]? = some q) :
    w.cell? ⟨b, o + i * 3, none⟩ = some (.int .i64 q.kind) ∧ w.cell? ⟨b, o + i * 3 + 1, none⟩ = some (.int .i64 q.line) ∧ w.cell? ⟨b, o + i * 3 + 2, none⟩ = some (.int .i64 q.miss) :=
  ⟨h.cell i q hq 0 (by omega), h.cell i q hq 1 (by omega), h.cell i q hq 2 (by omega)⟩

set_option maxHeartbeats 3200000 in
set_option maxRecDepth 20000 in
theorem mplays_bad (w : World) (p : Nat → Addr) (HG : Hid (Glob w p)) (most : Int) (hm : most < 1 ∨ 8 < most) (a : Option Addr) (c : Nat) (l : List Ask7) (hll : l.length ≤ 140737488351232) :
    Calls Tryd.prog 5 #[.int .i64 most, .slice a l.length c] w fun e w' => e = .returned (.bool true) ∧ Below w.heap.size w w' := by
  have hArg := HG.out.cell 1 (by omega) (by omega)
  simp only [gIx] at hArg
  have HNew := Lib.hid (MNew_bad most hm w _ _ hArg)
  have HRef := Lib.hid (fun W => RNew_bad most hm W)
  have HIs := Lib.hid (keep_Is opMNew most 1 (by omega) w p HG.out)
  clear hm hArg
  go_enter Tryd.func5, Tryd.ntmps5
  go_wp2_with fail
  refine HNew.out.mono ?_; rintro r w1 ⟨rfl, rfl⟩
  go_wp2_with fail
  refine (HRef.out _).mono ?_; rintro r w1 ⟨rfl, rfl⟩
  go_wp2_with fail
  refine (by simpa [codeErr] using HIs.out : Calls Tryd.prog 14 #[errV opMNew most (sentV (p 1)), .int .i64 1, .string opMNew, .int .i64 most] w fun e w' => e = .returned (.bool true) ∧ Below w.heap.size w w').mono ?_; rintro r w2 ⟨rfl, hB2⟩
  have HB2 := Lib.hid hB2
  clear hB2
  by_cases hpos : 0 < l.length
  · go_wp2_with fail
    refine wp_loop_rounds 1 ?_
    rw [rounds_succ]
    go_wp2_with fail
    refine (mshr_runs _ p (HG.out.below HB2.out (Nat.le_refl _))).mono ?_; rintro r w3 ⟨rfl, hB3⟩
    go_wp2_with fail
    go_ret
    exact ⟨rfl, HB2.out.trans (hB3.mono HB2.out.size)⟩
  · have h0 : l.length = 0 := by omega
    rw [h0]
    go_wp2_with fail
    refine wp_loop_rounds 1 ?_
    rw [rounds_succ]
    go_wp2_with fail
    refine (mshr_runs _ p (HG.out.below HB2.out (Nat.le_refl _))).mono ?_; rintro r w3 ⟨rfl, hB3⟩
    go_wp2_with fail
    go_ret
    exact ⟨rfl, HB2.out.trans (hB3.mono HB2.out.size)⟩

theorem TabAt.base {w : World} {T B B' : Nat} {tT tE : TypeId} {most : Int} {v : Value} {l : List Mis} (h : TabAt w T B' tT tE most v l) (hB : B ≤ B') : TabAt w T B tT tE most v l :=
  ⟨h.t, ownsRow_base h.row hB, h.ne, Nat.le_trans hB h.ge⟩
theorem MPlay.new {w w1 w2 : World} {T R : Nat} {most : Int} (hB1 : Below w.heap.size w w1) (hT : MTab w1 T w.heap.size most (.slice none 0 0) []) (hB2 : Below w1.heap.size w1 w2) (hR : RTab w2 R w1.heap.size most (.slice none 0 0) []) :
    MPlay w w2 T R most (.slice none 0 0) (.slice none 0 0) [] [] :=
  ⟨hB1.trans (hB2.mono hB1.size), hT.below hB2, hR.base hB1.size, fun q hq hr => by
    rcases hq with rfl | hq
    · rcases hr with hr | hr
      · have := hT.t.lt; have := hR.ge; omega
      · cases hr
    · cases hq⟩
end Go.Proofs.YtjmlficbnljiaaaDoor
