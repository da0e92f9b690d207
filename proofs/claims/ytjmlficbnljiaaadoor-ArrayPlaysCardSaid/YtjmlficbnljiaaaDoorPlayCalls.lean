/- What each call does to the two arrays that lie side by side, with the ask's own block beside them. -/
import Derived.Test.YtjmlficbnljiaaaDoorPlayBad
namespace Go.Proofs.YtjmlficbnljiaaaDoor
open Go.RowKit

/-- The two arrays, and the ask's block, which is in neither. -/
structure Joint (w W : World) (A S R E B cE k Q : Nat) (qc : List Value) (la lm : List (Nat × SetM)) : Prop where
  mem : PlayMem w W A S R E B cE k la lm
  q : Blk W Q 37 qc
  na : ¬ arrBlocks A S la Q
  nr : ¬ refBlocks R E B lm Q

variable {w W W' : World} {A S R E B cE k Q : Nat} {qc : List Value} {la la' lm lm' : List (Nat × SetM)}

theorem Joint.then (h : Joint w W A S R E B cE k Q qc la lm) (hb : Below W.heap.size W W') : Joint w W' A S R E B cE k Q qc la lm := ⟨h.mem.then hb, h.q.below hb h.q.lt, h.na, h.nr⟩
theorem Joint.drew (h : Joint w W A S R E B cE k Q qc la lm) : Joint w W.drew A S R E B cE k Q qc la lm := h.then (Below.refl _ _).drew
theorem Joint.arr (h : Joint w W A S R E B cE k Q qc la lm) (hs : ArrStep W W' A S la la') : Joint w W' A S R E B cE k Q qc la' lm :=
  ⟨h.mem.arr hs, h.q.fr hs.fr h.na, fun x => h.na ((arrBlocks_map hs.map _).1 x), h.nr⟩
theorem Joint.doc (h : Joint w W A S R E B cE k Q qc la lm) (hs : RefStep W W' R E B cE k lm lm') : Joint w W' A S R E B cE k Q qc la lm' :=
  ⟨h.mem.doc hs, h.q.fr hs.fr h.nr, h.na, fun x => h.nr ((refBlocks_map hs.map _).1 x)⟩

theorem jDropA (h : Joint w W A S R E B cE k Q qc la lm) (line : Int) (g : Bool) (hg : (arrGet la line).isSome = g) :
    Calls Tryd.prog 8 #[.pointer (some ⟨A, 0, none⟩), .int .i64 line] W fun r W' => r = .returned (.bool g) ∧ Joint w W' A S R E B cE k Q qc (arrDrop la line) lm :=
  (Drop_any h.mem.at_ h.mem.ok line).mono fun _ _ ⟨e, hs⟩ => ⟨by rw [e, hg], h.arr hs⟩
theorem jDropD (h : Joint w W A S R E B cE k Q qc la lm) (line : Int) (g : Bool) (hg : (rGet lm line).isSome = g) :
    Calls Tryd.prog 18 #[.pointer (some ⟨R, 0, none⟩), .int .i64 line] W fun r W' => r = .returned (.bool g) ∧ Joint w W' A S R E B cE k Q qc la (rDrop lm line) :=
  (rDrop_any h.mem.ref line).mono fun _ _ ⟨e, hs⟩ => ⟨by rw [e, hg], h.doc hs⟩
theorem jTouchA (h : Joint w W A S R E B cE k Q qc la lm) (line : Int) (g : Bool) (hg : (arrGet la line).isSome = g) :
    Calls Tryd.prog 10 #[.pointer (some ⟨A, 0, none⟩), .int .i64 line] W fun r W' => r = .returned (.bool g) ∧ Joint w W' A S R E B cE k Q qc (arrTouch la line) lm :=
  (Touch_any h.mem.at_ h.mem.ok line).mono fun _ _ ⟨e, hs⟩ => ⟨by rw [e, hg], h.arr hs⟩
theorem jTouchD (h : Joint w W A S R E B cE k Q qc la lm) (line : Int) (g : Bool) (hg : (rGet lm line).isSome = g) :
    Calls Tryd.prog 19 #[.pointer (some ⟨R, 0, none⟩), .int .i64 line] W fun r W' => r = .returned (.bool g) ∧ Joint w W' A S R E B cE k Q qc la (rTouch lm line) :=
  (rTouch_any h.mem.ref line).mono fun _ _ ⟨e, hs⟩ => ⟨by rw [e, hg], h.doc hs⟩
theorem jRoomA (h : Joint w W A S R E B cE k Q qc la lm) (line : Int) (g : Bool) (hg : arrRoom la line = g) :
    Calls Tryd.prog 20 #[.pointer (some ⟨A, 0, none⟩), .int .i64 line] W fun r W' => r = .returned (.bool g) ∧ Joint w W' A S R E B cE k Q qc la lm :=
  (Room_any h.mem.at_ h.mem.ok line).mono fun _ _ ⟨e, hs⟩ => ⟨by rw [e, hg], h.then hs⟩
theorem jRoomD (h : Joint w W A S R E B cE k Q qc la lm) (line : Int) (g : Bool) (hg : rRoom lm line = g) :
    Calls Tryd.prog 21 #[.pointer (some ⟨R, 0, none⟩), .int .i64 line] W fun r W' => r = .returned (.bool g) ∧ Joint w W' A S R E B cE k Q qc la lm :=
  (rRoom_any h.mem.ref line).mono fun _ _ ⟨e, hs⟩ => ⟨by rw [e, hg], h.then hs⟩
theorem jVictimA (h : Joint w W A S R E B cE k Q qc la lm) (line : Int) (a : Option Addr) (b o c : Nat) (pins : List Int) (hp : IntsAt w a b o pins) (hpl : pins.length ≤ 1000) (g : Int) (hg : arrVictim la line pins = g) :
    Calls Tryd.prog 22 #[.pointer (some ⟨A, 0, none⟩), .int .i64 line, .slice a pins.length c] W fun r W' => r = .returned (.int .i64 g) ∧ Joint w W' A S R E B cE k Q qc la lm :=
  (Victim_all h.mem.at_ h.mem.ok line a b o c pins (hp.below h.mem.below (Nat.le_refl _)) hpl).mono fun _ _ ⟨e, hs⟩ => ⟨by rw [e, hg], h.then hs⟩
theorem jVictimD (h : Joint w W A S R E B cE k Q qc la lm) (line : Int) (a : Option Addr) (b o c : Nat) (pins : List Int) (hp : IntsAt w a b o pins) (hpl : pins.length ≤ 1000) (g : Int) (hg : rVictim lm line pins = g) :
    Calls Tryd.prog 23 #[.pointer (some ⟨R, 0, none⟩), .int .i64 line, .slice a pins.length c] W fun r W' => r = .returned (.int .i64 g) ∧ Joint w W' A S R E B cE k Q qc la lm :=
  (rVictim_any h.mem.ref line a b o c pins (hp.below h.mem.below (Nat.le_refl _)) hpl).mono fun _ _ ⟨e, hs⟩ => ⟨by rw [e, hg], h.then hs⟩
theorem jGetA (h : Joint w W A S R E B cE k Q qc la lm) (line : Int) (g : Option Ent) (hg : arrGet la line = g) :
    Calls Tryd.prog 11 #[.pointer (some ⟨A, 0, none⟩), .int .i64 line] W fun r W' => r = .returned (.tuple #[(g.getD Ent.zero).val, .bool g.isSome]) ∧ Joint w W' A S R E B cE k Q qc la lm :=
  (Get_any h.mem.at_ h.mem.ok line).mono fun _ _ ⟨e, hs⟩ => ⟨by rw [e, hg], h.then hs⟩
theorem jGetD (h : Joint w W A S R E B cE k Q qc la lm) (line : Int) (g : Option Ent) (hg : rGet lm line = g) :
    Calls Tryd.prog 17 #[.pointer (some ⟨R, 0, none⟩), .int .i64 line] W fun r W' => r = .returned (.tuple #[(g.getD Ent.zero).val, .bool g.isSome]) ∧ Joint w W' A S R E B cE k Q qc la lm :=
  (rGet_any h.mem.ref line).mono fun _ _ ⟨e, hs⟩ => ⟨by rw [e, hg], h.then hs⟩
theorem jPutA (h : Joint w W A S R E B cE k Q qc la lm) (p : Nat → Addr) (hgl : Glob w p) (e : Ent) (c : Nat) (hc : (arrPut la e).1 = c) :
    Calls Tryd.prog 9 #[.pointer (some ⟨A, 0, none⟩), e.val] W fun r W' => r = .returned (codeErr p opPut e.line c) ∧ Joint w W' A S R E B cE k Q qc (arrPut la e).2 lm :=
  (Put_any h.mem.at_ h.mem.ok e p (hgl.below h.mem.below (Nat.le_refl _))).mono fun _ _ ⟨r, hs⟩ => ⟨by rw [r, hc], h.arr hs⟩
theorem jPutD (h : Joint w W A S R E B cE k Q qc la lm) (e : Ent) (c : Nat) (hc : (rPut lm e).1 = c) :
    Calls Tryd.prog 15 #[.pointer (some ⟨R, 0, none⟩), e.val] W fun r W' => r = .returned (.int .i64 (c : Nat)) ∧ Joint w W' A S R E B cE k Q qc la (rPut lm e).2 :=
  (rPut_any h.mem.ref e).mono fun _ _ ⟨r, hs⟩ => ⟨by rw [r, hc], h.doc hs⟩
theorem jPlain (h : Joint w W A S R E B cE k Q qc la lm) (e : Ent) :
    Calls Tryd.prog 16 #[e.val] W fun r W' => r = .returned e.val ∧ Joint w W' A S R E B cE k Q qc la lm :=
  (plain_any e W).mono fun _ _ ⟨r, hs⟩ => ⟨r, h.then hs⟩
theorem jIs (h : Joint w W A S R E B cE k Q qc la lm) (p : Nat → Addr) (hgl : Glob w p) (op : ByteArray) (at_ : Int) (c : Nat) (hc : c ≤ 10) :
    Calls Tryd.prog 14 #[codeErr p op at_ c, .int .i64 c, .string op, .int .i64 at_] W fun r W' => r = .returned (.bool true) ∧ Joint w W' A S R E B cE k Q qc la lm :=
  (keep_Is op at_ c hc W p (hgl.below h.mem.below (Nat.le_refl _))).mono fun _ _ ⟨r, hs⟩ => ⟨r, h.then hs⟩
theorem arrPut_code (l : List (Nat × SetM)) (e : Ent) : (arrPut l e).1 ≤ 10 := by
  unfold arrPut
  repeat' split
  all_goals simp

abbrev askVals (kind line : Int) (e : Ent) (v : Value) : List Value := [.int .i64 kind, .int .i64 line, .int .i64 e.line, .int .i64 e.state, .int .i64 e.mode, .int .i64 e.epoch, .int .u32 e.d0, .int .u32 e.d1, .int .u32 e.d2, .int .u32 e.d3, .bool e.held, .bool e.fresh, v]
theorem askCells {kind line : Int} {e : Ent} {v : Value} (h : Joint w W A S R E B cE k Q (askVals kind line e v) la lm) :
    W.cell? ⟨Q, 2, none⟩ = some (.int .i64 e.line) ∧ W.cell? ⟨Q, 3, none⟩ = some (.int .i64 e.state) ∧ W.cell? ⟨Q, 4, none⟩ = some (.int .i64 e.mode) ∧ W.cell? ⟨Q, 5, none⟩ = some (.int .i64 e.epoch) ∧ W.cell? ⟨Q, 6, none⟩ = some (.int .u32 e.d0) ∧ W.cell? ⟨Q, 7, none⟩ = some (.int .u32 e.d1) ∧ W.cell? ⟨Q, 8, none⟩ = some (.int .u32 e.d2) ∧ W.cell? ⟨Q, 9, none⟩ = some (.int .u32 e.d3) ∧ W.cell? ⟨Q, 10, none⟩ = some (.bool e.held) ∧ W.cell? ⟨Q, 11, none⟩ = some (.bool e.fresh) :=
  ⟨h.q.cell 2, h.q.cell 3, h.q.cell 4, h.q.cell 5, h.q.cell 6, h.q.cell 7, h.q.cell 8, h.q.cell 9, h.q.cell 10, h.q.cell 11⟩

theorem twoCells {X Y t t' : Nat} {e : Ent} (h : Blk W X t e.cells) (h' : Blk W Y t' e.cells) :
    W.cell? ⟨X, 0, none⟩ = some (.int .i64 e.line) ∧ W.cell? ⟨X, 1, none⟩ = some (.int .i64 e.state) ∧ W.cell? ⟨X, 2, none⟩ = some (.int .i64 e.mode) ∧ W.cell? ⟨X, 3, none⟩ = some (.int .i64 e.epoch) ∧ W.cell? ⟨X, 4, none⟩ = some (.int .u32 e.d0) ∧ W.cell? ⟨X, 5, none⟩ = some (.int .u32 e.d1) ∧ W.cell? ⟨X, 6, none⟩ = some (.int .u32 e.d2) ∧ W.cell? ⟨X, 7, none⟩ = some (.int .u32 e.d3) ∧ W.cell? ⟨X, 8, none⟩ = some (.bool e.held) ∧ W.cell? ⟨X, 9, none⟩ = some (.bool e.fresh) ∧ W.cell? ⟨Y, 0, none⟩ = some (.int .i64 e.line) ∧ W.cell? ⟨Y, 1, none⟩ = some (.int .i64 e.state) ∧ W.cell? ⟨Y, 2, none⟩ = some (.int .i64 e.mode) ∧ W.cell? ⟨Y, 3, none⟩ = some (.int .i64 e.epoch) ∧ W.cell? ⟨Y, 4, none⟩ = some (.int .u32 e.d0) ∧ W.cell? ⟨Y, 5, none⟩ = some (.int .u32 e.d1) ∧ W.cell? ⟨Y, 6, none⟩ = some (.int .u32 e.d2) ∧ W.cell? ⟨Y, 7, none⟩ = some (.int .u32 e.d3) ∧ W.cell? ⟨Y, 8, none⟩ = some (.bool e.held) ∧ W.cell? ⟨Y, 9, none⟩ = some (.bool e.fresh) :=
  ⟨h.cell 0, h.cell 1, h.cell 2, h.cell 3, h.cell 4, h.cell 5, h.cell 6, h.cell 7, h.cell 8, h.cell 9, h'.cell 0, h'.cell 1, h'.cell 2, h'.cell 3, h'.cell 4, h'.cell 5, h'.cell 6, h'.cell 7, h'.cell 8, h'.cell 9⟩

theorem infoREnt : (Tryd.prog.info? 50).map (fun i => (i.zero, i.size, i.bytes)) = some (some Ent.zero.val, 10, 56) := by kernel_rfl
theorem rList_take (l : List (Nat × SetM)) (k : Nat) : (rList (l.take k)).length ≤ (rList l).length := by
  have : rList l = rList (l.take k) ++ rList (l.drop k) := by simp only [rList]; rw [← List.flatMap_append, List.take_append_drop]
  rw [this]; simp
theorem rfilter_len (l : List Ent) : (l.filter rThere).length ≤ l.length := List.length_filter_le _ _
theorem rList_step {l : List (Nat × SetM)} {i : Nat} {x : Nat × SetM} (h : l[i]? = some x) : rList (l.take (i + 1)) = rList (l.take i) ++ x.2.ways.filter rThere := by
  rw [List.take_add_one, h]
  simp [rList]
theorem ents_news (W : World) (B : Nat) (e : Ent) (hB : W.heap.size = B) : ∀ q u, e.cells[q]? = some u → (W.alloc (rEntObj e)).cell? ((⟨B, 0, none⟩ : Addr).add q) = some u := by
  intro q u hq
  have h1 := (rEntObj_new W e).cell q
  rw [hq, hB] at h1
  rw [add_zero_at]
  exact h1
theorem cells_one (e : Ent) : ∀ u ∈ e.cells, u.oneCell' = true := by
  intro u hu; simp [Ent.cells] at hu; rcases hu with rfl | rfl | rfl | rfl | rfl | rfl | rfl | rfl | rfl | rfl <;> rfl
end Go.Proofs.YtjmlficbnljiaaaDoor
