/- assentlaw6.ArrayKeeps: the walk. -/
import Derived.Test.YtjmlficbnljiaaaDoorRuns6
import Derived.Test.YtjmlficbnljiaaaDoorKeepPure
import Derived.Test.YtjmlficbnljiaaaDoorEq
import Derived.Deep.RegionWith
import Derived.Deep.RegionHeld3
import Derived.Deep.DeepCutAuto
import Derived.Deep.Cut
import Derived.Deep.CutBlock
import Derived.BigRegion
namespace Go.Proofs.YtjmlficbnljiaaaDoor
open Go.RowKit

/-- A call that is asked for. -/
structure AskM where
  (kind line : Int)
  (ent : Ent)
  (pin : Value)
def AskM.cells (q : AskM) : List Value := [.int .i64 q.kind, .int .i64 q.line] ++ (q.ent.cells ++ [q.pin])

structure AsksAt (w : World) (a : Option Addr) (b o : Nat) (l : List AskM) : Prop where
  addr : l ≠ [] → a = some ⟨b, o, none⟩
  cell : ∀ (i : Nat) (q : AskM), l[i]? = some q → ∀ j, j < 13 → w.cell? ⟨b, o + i * 13 + j, none⟩ = q.cells[j]?
  lt : l ≠ [] → b < w.heap.size

theorem zero33 : Tryd.zeroCells33 = (flat Ent.cells (List.replicate 32 Ent.zero)).toArray := by kernel_rfl

/-- What the model's array and the law's own two tables have to do with each other. -/
structure KeepInv (m : List (Nat × SetM)) (hv : List Ent) (is : List Int) : Prop where
  wf : WF m
  get : ∀ k : Nat, k ≤ 31 → arrGet m k = if 0 < is.getD k 0 then some (hv.getD k Ent.zero) else none

theorem getD_rep (n k : Nat) : (List.replicate n (0 : Int)).getD k 0 = 0 := by
  rw [List.getD_eq_getElem?_getD, List.getElem?_replicate]; split <;> rfl
theorem getD_set_eq {α : Type} (l : List α) (i : Nat) (a d : α) (h : i < l.length) : (l.set i a).getD i d = a := by simp [List.getD, h]
theorem getD_set_ne' {α : Type} (l : List α) (i j : Nat) (a d : α) (h : i ≠ j) : (l.set i a).getD j d = l.getD j d := by simp [List.getD, h]
theorem KeepInv.drop {m : List (Nat × SetM)} {hv : List Ent} {is : List Int} (h : KeepInv m hv is) {L : Nat} (hL : L ≤ 31) (hi : is.length = 32) : KeepInv (arrDrop m L) hv (is.set L 0) := by
  obtain ⟨h1, h2⟩ := wf_drop h.wf hL
  refine ⟨h1, fun k hk => ?_⟩
  rw [h2 k hk]
  by_cases hkL : k = L
  · subst hkL; rw [if_pos rfl, getD_set_eq _ _ _ _ (by omega)]; simp
  · rw [if_neg hkL, getD_set_ne' _ _ _ _ _ (fun e => hkL e.symm)]; exact h.get k hk
theorem KeepInv.put {m : List (Nat × SetM)} {hv : List Ent} {is : List Int} (h : KeepInv m hv is) {L : Nat} (hL : L ≤ 31) (hi : is.length = 32) (hh : hv.length = 32) {e : Ent} (he : e.line = L) (hb : ¬ e.Bad) :
    (arrPut m e).1 = 0 ∧ KeepInv (arrPut m e).2 (hv.set L e) (is.set L 1) := by
  obtain ⟨h0, h1, h2⟩ := wf_put h.wf hL he hb
  refine ⟨h0, h1, fun k hk => ?_⟩
  rw [h2 k hk]
  by_cases hkL : k = L
  · subst hkL; rw [if_pos rfl, getD_set_eq _ _ _ _ (by omega), getD_set_eq _ _ _ _ (by omega)]; simp
  · rw [if_neg hkL, getD_set_ne' _ _ _ _ _ (fun e => hkL e.symm), getD_set_ne' _ _ _ _ _ (fun e => hkL e.symm)]; exact h.get k hk
theorem KeepInv.touch {m : List (Nat × SetM)} {hv : List Ent} {is : List Int} (h : KeepInv m hv is) {L : Nat} (hL : L ≤ 31) : KeepInv (arrTouch m L) hv is := by
  obtain ⟨h1, h2⟩ := wf_touch h.wf hL
  exact ⟨h1, fun k hk => by rw [h2 k hk]; exact h.get k hk⟩

structure KeepSt (w wr : World) (A S H I : Nat) (m : List (Nat × SetM)) (hv : List Ent) (is : List Int) : Prop where
  B : Below w.heap.size w wr
  at_ : ArrAt wr A S m
  ok : ArrOk m
  bl : ∀ k, arrBlocks A S m k → w.heap.size ≤ k
  h : Blk wr H 33 (flat Ent.cells hv)
  i : Blk wr I 34 (is.map (Value.int .i64))
  hl : hv.length = 32
  il : is.length = 32
  gH : w.heap.size ≤ H
  gI : w.heap.size ≤ I
  hi : H ≠ I
  nH : ¬ arrBlocks A S m H
  nI : ¬ arrBlocks A S m I
  inv : KeepInv m hv is

/-- The same tables, another world: the array went a step. -/
theorem KeepSt.step {w wr w' : World} {A S H I : Nat} {m m' : List (Nat × SetM)} {hv : List Ent} {is : List Int} (st : KeepSt w wr A S H I m hv is) (h : ArrStep wr w' A S m m') (hinv : KeepInv m' hv is) : KeepSt w w' A S H I m' hv is :=
  ⟨st.B.trans (h.below st.bl st.B.size), h.at_, h.ok, h.blocks st.bl, st.h.fr h.fr st.nH, st.i.fr h.fr st.nI, st.hl, st.il, st.gH, st.gI, st.hi,
   fun x => st.nH ((arrBlocks_map h.map _).1 x), fun x => st.nI ((arrBlocks_map h.map _).1 x), hinv⟩
theorem KeepSt.below {w wr w' : World} {A S H I : Nat} {m : List (Nat × SetM)} {hv : List Ent} {is : List Int} (st : KeepSt w wr A S H I m hv is) (h : Below wr.heap.size wr w') : KeepSt w w' A S H I m hv is :=
  ⟨st.B.trans (h.mono st.B.size), st.at_.below h, st.ok, st.bl, st.h.below h st.h.lt, st.i.below h st.i.lt, st.hl, st.il, st.gH, st.gI, st.hi, st.nH, st.nI, st.inv⟩
theorem KeepSt.lH {w wr : World} {A S H I : Nat} {m : List (Nat × SetM)} {hv : List Ent} {is : List Int} (st : KeepSt w wr A S H I m hv is) : H < wr.heap.size := st.h.lt

theorem AsksAt.open {w : World} {a : Option Addr} {b o : Nat} {l : List AskM} (h : AsksAt w a b o l) {i : Nat} {q : AskM} (hq : l[i]? = some q) :
    w.cell? ⟨b, o + i * 13, none⟩ = some (.int .i64 q.kind) ∧ w.cell? ⟨b, o + i * 13 + 1, none⟩ = some (.int .i64 q.line)
    ∧ w.cell? ⟨b, o + i * 13 + 2, none⟩ = some (.int .i64 q.ent.line) ∧ w.cell? ⟨b, o + i * 13 + 2 + 1, none⟩ = some (.int .i64 q.ent.state) ∧ w.cell? ⟨b, o + i * 13 + 2 + 2, none⟩ = some (.int .i64 q.ent.mode)
    ∧ w.cell? ⟨b, o + i * 13 + 2 + 3, none⟩ = some (.int .i64 q.ent.epoch) ∧ w.cell? ⟨b, o + i * 13 + 2 + 4, none⟩ = some (.int .u32 q.ent.d0) ∧ w.cell? ⟨b, o + i * 13 + 2 + 5, none⟩ = some (.int .u32 q.ent.d1)
    ∧ w.cell? ⟨b, o + i * 13 + 2 + 6, none⟩ = some (.int .u32 q.ent.d2) ∧ w.cell? ⟨b, o + i * 13 + 2 + 7, none⟩ = some (.int .u32 q.ent.d3) ∧ w.cell? ⟨b, o + i * 13 + 2 + 8, none⟩ = some (.bool q.ent.held) ∧ w.cell? ⟨b, o + i * 13 + 2 + 9, none⟩ = some (.bool q.ent.fresh) :=
  ⟨h.cell i q hq 0 (by omega), h.cell i q hq 1 (by omega), h.cell i q hq 2 (by omega), h.cell i q hq 3 (by omega), h.cell i q hq 4 (by omega), h.cell i q hq 5 (by omega), h.cell i q hq 6 (by omega), h.cell i q hq 7 (by omega), h.cell i q hq 8 (by omega), h.cell i q hq 9 (by omega), h.cell i q hq 10 (by omega), h.cell i q hq 11 (by omega)⟩
theorem AsksAt.below {w w' : World} {a : Option Addr} {b o B : Nat} {l : List AskM} (h : AsksAt w a b o l) (hb : Below B w w') (hB : w.heap.size ≤ B) : AsksAt w' a b o l :=
  ⟨h.addr, fun i q hq j hj => by
    have hn : l ≠ [] := by rintro rfl; simp at hq
    rw [hb.cell (by exact Nat.lt_of_lt_of_le (h.lt hn) hB)]; exact h.cell i q hq j hj, fun hn => Nat.lt_of_lt_of_le (h.lt hn) hb.size⟩

/-- What the law makes of an entry that it was given. -/
def normL (L : Nat) (e : Ent) : Ent := ⟨L, within e.state 1 4, within e.mode 0 3, within e.epoch 0 9, e.d0, e.d1, e.d2, e.d3, e.held, e.fresh⟩
theorem normL_ok (L : Nat) (e : Ent) : ¬ (normL L e).Bad := by
  have a1 := within_ge e.state 1 4 (by omega)
  have a2 := within_le e.state 1 4 (by omega)
  have b1 := within_ge e.mode 0 3 (by omega)
  have b2 := within_le e.mode 0 3 (by omega)
  have c1 := within_ge e.epoch 0 9 (by omega)
  have c2 := within_le e.epoch 0 9 (by omega)
  unfold Ent.Bad normL; simp only []; omega

theorem KeepSt.icell {w wr : World} {A S H I : Nat} {m : List (Nat × SetM)} {hv : List Ent} {is : List Int} (st : KeepSt w wr A S H I m hv is) {w' : World} (h : Blk w' I 34 (is.map (Value.int .i64))) {L : Nat} (hL : L ≤ 31) :
    w'.cell? ⟨I, L, none⟩ = some (.int .i64 (is.getD L 0)) := by
  have := st.il
  rw [h.cell, List.getElem?_map, List.getElem?_eq_getElem (by omega)]
  simp [List.getD, List.getElem?_eq_getElem (show L < is.length by omega)]
theorem KeepSt.has {w wr : World} {A S H I : Nat} {m : List (Nat × SetM)} {hv : List Ent} {is : List Int} (st : KeepSt w wr A S H I m hv is) {L : Nat} (hL : L ≤ 31) : (arrGet m L).isSome = decide (0 < is.getD L 0) := by
  rw [st.inv.get L (by omega)]
  by_cases h : 0 < is.getD L 0
  · rw [if_pos h, decide_eq_true h]; rfl
  · rw [if_neg h, decide_eq_false h]; rfl

set_option maxHeartbeats 3200000 in
set_option maxRecDepth 20000 in
theorem array_keeps (w : World) (p : Nat → Addr) (hg : Glob w p) (a : Option Addr) (b o c : Nat) (l : List AskM) (line : Int) (hl : AsksAt w a b o l) (hll : l.length ≤ 140737488351232) :
    Calls Tryd.prog 3 #[.slice a l.length c, .int .i64 line] w fun e w' => e = .returned (.bool true) ∧ Below w.heap.size w w' := by
  have HG := Lib.hid hg; clear hg
  have HL := Lib.hid hl; clear hl
  have HN := Lib.hid (New_ok 8 8 (by unfold pow8; omega) (by unfold pow8; omega))
  go_enter Tryd.func3, Tryd.ntmps3
  go_wp2_with fail
  refine (HN.out w).mono ?_
  rintro r w1 ⟨A, S, m0, rfl, hA, hB, hb, hl⟩
  have hok := new_ok (by unfold pow8; omega) (by unfold pow8; omega) hl
  have HA := Lib.hid hA
  have HO := Lib.hid hok
  have HBL := Lib.hid hb
  have HB := Lib.hid hB
  have HM := Lib.hid hl
  clear hA hok hb hB hl
  go_wp2_with fail
  rw [zero33]
  go_loopw [9] (fun i wr => ∃ k : Nat, k ≤ l.length ∧ i = .int .i64 k ∧ ∃ m hv is, KeepSt w wr A S w1.heap.size (w1.heap.size + 1) m hv is) (fun i _ => l.length - (intOf i).toNat)
  case atStart =>
    obtain ⟨hwf, hnone⟩ := wf_new HM.out
    have hb1 : Below w1.heap.size w1 ((w1.alloc (.cells (flat Ent.cells (List.replicate 32 Ent.zero)).toArray 33)).alloc (.cells ((List.replicate 32 (0 : Int)).map (Value.int .i64)).toArray 34)) :=
      ((Below.refl _ _).alloc (Nat.le_refl _) _).alloc (by simp) _
    refine ⟨0, by omega, rfl, m0, List.replicate 32 Ent.zero, List.replicate 32 0, HB.out.trans (hb1.mono HB.out.size), HA.out.below hb1, HO.out, HBL.out, ?_, ?_, by simp, by simp, HB.out.size, Nat.le_succ_of_le HB.out.size, by omega, fun h => Nat.lt_irrefl _ (HA.out.lt h), fun h => absurd (HA.out.lt h) (by omega), hwf, fun k hk => ?_⟩
    · have h := (Blk.new w1 (flat Ent.cells (List.replicate 32 Ent.zero)).toArray 33).alloc (.cells ((List.replicate 32 (0 : Int)).map (Value.int .i64)).toArray 34)
      simpa using h
    · have h := Blk.new (w1.alloc (.cells (flat Ent.cells (List.replicate 32 Ent.zero)).toArray 33)) ((List.replicate 32 (0 : Int)).map (Value.int .i64)).toArray 34
      simpa using h
    · rw [hnone k hk]
      rw [getD_rep]; simp
  case round =>
    obtain ⟨k, hk, rfl, m, hv, is, hst⟩ := hrel
    have ST := Lib.hid hst; clear hst
    clear HA HO HBL HB HM
    by_cases hlt : k < l.length ∧ k < 60
    · obtain ⟨hlt1, hlt2⟩ := hlt
      obtain ⟨q, hq⟩ : ∃ q, l[k]? = some q := ⟨_, List.getElem?_eq_getElem hlt1⟩
      have HQ := Lib.hid hq; clear hq
      obtain rfl := HL.out.addr (by rintro rfl; simp at hlt1)
      obtain ⟨q0, q1, c0, c1, c2, c3, c4, c5, c6, c7, c8, c9⟩ := (HL.out.below ST.out.B (Nat.le_refl _)).open HQ.out
      obtain ⟨L, hL⟩ := Int.eq_ofNat_of_zero_le (within_ge q.ent.line 0 31 (by omega))
      have hL31 : L ≤ 31 := by have := within_le q.ent.line 0 31 (by omega); omega
      have HLq := Lib.hid hL; clear hL
      go_wp2_with fail
      refine (book_Within _ _ _ _ (by omega) (by omega) (by omega)).mono ?_; rintro r w2 ⟨rfl, rfl⟩
      rw [HLq.out]
      go_wp2_with fail
      have hE1 := entObj_new wr ⟨L, q.ent.state, q.ent.mode, q.ent.epoch, q.ent.d0, q.ent.d1, q.ent.d2, q.ent.d3, q.ent.held, q.ent.fresh⟩
      have hB1 := entObj_below wr ⟨L, q.ent.state, q.ent.mode, q.ent.epoch, q.ent.d0, q.ent.d1, q.ent.d2, q.ent.d3, q.ent.held, q.ent.fresh⟩
      simp only [entObj] at hE1 hB1
      generalize wr.alloc (.cells #[.int .i64 (L : Int), .int .i64 q.ent.state, .int .i64 q.ent.mode, .int .i64 q.ent.epoch, .int .u32 q.ent.d0, .int .u32 q.ent.d1, .int .u32 q.ent.d2, .int .u32 q.ent.d3, .bool q.ent.held, .bool q.ent.fresh] 32) = w3 at *
      clear q1 c0 c1 c2 c3 c4 c5 c6 c7 c8 c9 q0
      obtain ⟨c0, c1, c2, c3, c4, c5, c6, c7, c8, c9⟩ := ent_cells0 hE1
      have hfr := hE1.free
      have HE1 := Lib.hid hE1
      have HB1 := Lib.hid hB1
      clear hE1 hB1
      refine wp_region_still_tail 10 (by kernel_rfl) (by kernel_rfl) ?_
      simp only [List.take_succ_cons, List.take_zero, List.drop_succ_cons, List.drop_zero]
      iterate 2 still_step
      still_call ((book_Within _ _ _ _ (by omega) (by omega) (by omega)).mono fun _ _ h => ⟨h.1, h.2.symm⟩)
      iterate 2 still_step
      still_call ((book_Within _ _ _ _ (by omega) (by omega) (by omega)).mono fun _ _ h => ⟨h.1, h.2.symm⟩)
      iterate 2 still_step
      still_call ((book_Within _ _ _ _ (by omega) (by omega) (by omega)).mono fun _ _ h => ⟨h.1, h.2.symm⟩)
      still_step
      refine wpStill_nil ?_
      change wpList _ _ _ _ _ w3.drew
      go_upto_region 12 with (fail)
      have hF4 : Fr (fun _ => False) wr (((w3.setCell ⟨wr.heap.size, 1, none⟩ (.int .i64 (within q.ent.state 1 4))).setCell ⟨wr.heap.size, 2, none⟩ (.int .i64 (within q.ent.mode 0 3))).setCell ⟨wr.heap.size, 3, none⟩ (.int .i64 (within q.ent.epoch 0 9))).drew :=
        Fr.drew (fr_set (.inr (Nat.le_refl _)) (fr_set (.inr (Nat.le_refl _)) (fr_set (.inr (Nat.le_refl _)) (Fr.of_below HB1.out))))
      have hE4 : Blk (((w3.setCell ⟨wr.heap.size, 1, none⟩ (.int .i64 (within q.ent.state 1 4))).setCell ⟨wr.heap.size, 2, none⟩ (.int .i64 (within q.ent.mode 0 3))).setCell ⟨wr.heap.size, 3, none⟩ (.int .i64 (within q.ent.epoch 0 9))).drew wr.heap.size 32 (normL L q.ent).cells :=
        (((HE1.out.set 1 (.int .i64 (within q.ent.state 1 4))).set 2 (.int .i64 (within q.ent.mode 0 3))).set 3 (.int .i64 (within q.ent.epoch 0 9))).drew
      generalize (((w3.setCell ⟨wr.heap.size, 1, none⟩ (.int .i64 (within q.ent.state 1 4))).setCell ⟨wr.heap.size, 2, none⟩ (.int .i64 (within q.ent.mode 0 3))).setCell ⟨wr.heap.size, 3, none⟩ (.int .i64 (within q.ent.epoch 0 9))).drew = w4 at *
      clear c0 c1 c2 c3 c4 c5 c6 c7 c8 c9 hfr HE1 HB1
      have hB4 : Below w.heap.size w w4 := ST.out.B.trans (hF4.below (B := w.heap.size) (fun _ h => h.elim) ST.out.B.size)
      have hA4 := ST.out.at_.fr hF4 (fun _ _ h => h)
      have hH4 := ST.out.h.fr hF4 (fun h => h)
      have hI4 := ST.out.i.fr hF4 (fun h => h)
      obtain ⟨c0, c1, c2, c3, c4, c5, c6, c7, c8, c9⟩ := ent_cells0 hE4
      simp only [normL] at c0 c1 c2 c3 c4 c5 c6 c7 c8 c9
      obtain ⟨q0, _⟩ := (HL.out.below hB4 (Nat.le_refl _)).open HQ.out
      have g1 := within_ge q.ent.state 1 4 (by omega)
      have g2 := within_le q.ent.state 1 4 (by omega)
      have HB4 := Lib.hid hB4
      have HA4 := Lib.hid hA4
      have HH4 := Lib.hid hH4
      have HI4 := Lib.hid hI4
      have HE4 := Lib.hid hE4
      have HF4 := Lib.hid hF4
      clear hB4 hA4 hH4 hI4 hE4 hF4
      by_cases hk3 : q.kind = 3
      · have hkb : ((q.kind : Int) == 3) = true := by simp [hk3]
        clear hk3
        go_upto_region 14 with (fail)
        have hi4 := ST.out.icell HI4.out hL31
        have HD : ∀ W, ArrAt W A S m → Calls Tryd.prog 8 #[.pointer (some ⟨A, 0, none⟩), .int .i64 (L : Int)] W fun r w' => r = .returned (.bool (decide (0 < is.getD L 0))) ∧ ArrStep W w' A S m (arrDrop m L) := fun W h => by
          rw [← ST.out.has hL31]; exact Drop_any h ST.out.ok L
        have HDh := Lib.hid HD; clear HD
        have HN0 := Lib.hid (show ¬ arrBlocks A S m wr.heap.size from fun h => Nat.lt_irrefl _ (ST.out.at_.lt h))
        have hL32 : (L : Int) < 32 := by omega
        clear c1 c2 c3 c4 c5 c6 c7 c8 c9 q0
        go_region_held3 (fun W => W.cell? ⟨wr.heap.size, 0, none⟩ = some (.int .i64 (L : Int)) ∧ W.cell? ⟨w1.heap.size + 1, L, none⟩ = some (.int .i64 (is.getD L 0))) (first | exact ⟨c0, hi4⟩ | exact ⟨by assumption, by assumption⟩ | go_keep)
          (first | (go_at_call 8; refine (HDh.out _ ?_).mono ?_; (exact HA4.out.fr (Fr.refl (fun _ => False) w4).drew (fun _ _ h => h)); rintro r w5 ⟨rfl, hS⟩; have k0 := hS.fr.cell (p := ⟨wr.heap.size, 0, none⟩) (v := .int .i64 (L : Int)) c0 HN0.out; have k1 := hS.fr.cell (p := ⟨w1.heap.size + 1, L, none⟩) (v := .int .i64 (is.getD L 0)) hi4 ST.out.nI))
        all_goals
          have hI5 := (Blk.drew HI4.out).fr hS.fr ST.out.nI
          have hf5 := hI5.free
          have hB5 := HB4.out.drew.trans (hS.below ST.out.bl HB4.out.size)
          have ST6 := Lib.hid (show KeepSt w (w5.setCell ⟨w1.heap.size + 1, L, none⟩ (.int .i64 0)) A S w1.heap.size (w1.heap.size + 1) (arrDrop m L) hv (is.set L 0) from
            ⟨hB5.setCell ST.out.gI _, hS.at_.fr (fr_set (S := fun k => k = w1.heap.size + 1) (.inl rfl) (Fr.refl _ _)) (fun k hk e => ST.out.nI ((arrBlocks_map hS.map _).1 (e ▸ hk))), hS.ok, hS.blocks ST.out.bl,
             ((Blk.drew HH4.out).fr hS.fr ST.out.nH).other ST.out.hi _, by rw [List.map_set]; exact hI5.set _ _, ST.out.hl, by simp [ST.out.il], ST.out.gH, ST.out.gI, ST.out.hi,
             fun x => ST.out.nH ((arrBlocks_map hS.map _).1 x), fun x => ST.out.nI ((arrBlocks_map hS.map _).1 x), ST.out.inv.drop hL31 ST.out.il⟩)
          have HS := Lib.hid hS
          clear hS hI5 hB5
          go_upto_region 20 with (fail)
          clear k0 k1 hf5 HS
          generalize w5.setCell ⟨w1.heap.size + 1, L, none⟩ (.int .i64 0) = w6 at *
          obtain ⟨T, hT⟩ := Int.eq_ofNat_of_zero_le (within_ge line 0 31 (by omega))
          have hT31 : T ≤ 31 := by have := within_le line 0 31 (by omega); omega
          have HT := Lib.hid hT; clear hT
          go_wp2_with fail
          refine (book_Within _ _ _ _ (by omega) (by omega) (by omega)).mono ?_; rintro r w8 ⟨rfl, rfl⟩
          rw [HT.out]
          go_wp2_with fail
          refine (Touch_any ST6.out.at_ ST6.out.ok T).mono ?_; rintro r w9 ⟨rfl, hS9⟩
          have ST9 := Lib.hid (ST6.out.step hS9 (ST6.out.inv.touch hT31))
          clear hS9
          go_wp2_with fail
          obtain ⟨m9, hv9, is9, st9⟩ : ∃ m hv is, KeepSt w w9 A S w1.heap.size (w1.heap.size + 1) m hv is := ⟨_, _, _, ST9.out⟩
          clear ST9 ST6 ST HLq HA4 HH4 HI4 HE4 HF4 HB4
          have ST9 := Lib.hid st9; clear st9
          obtain ⟨wo, hwo⟩ : ∃ wo : World, wo = wr := ⟨_, rfl⟩
          go_loopw [11] (fun j wq => ∃ k2 : Nat, k2 ≤ 32 ∧ j = .int .i64 k2 ∧ KeepSt w wq A S w1.heap.size (w1.heap.size + 1) m9 hv9 is9) (fun j _ => 32 - (intOf j).toNat)
          case atStart => exact ⟨0, by omega, rfl, ST9.out⟩
          case round =>
            obtain ⟨k2, hk2, rfl, stq⟩ := hrel
            have STQ := Lib.hid stq; clear stq
            by_cases hlt3 : k2 < 32
            · have hG := Get_any STQ.out.at_ STQ.out.ok k2
              have hgi := STQ.out.inv.get k2 (by omega)
              obtain ⟨h0, hh0⟩ : ∃ h0, hv9[k2]? = some h0 := ⟨_, List.getElem?_eq_getElem (by have := STQ.out.hl; omega)⟩
              have hhd : hv9.getD k2 Ent.zero = h0 := by simp [List.getD, hh0]
              rw [hhd] at hgi
              obtain ⟨iv, hiv⟩ : ∃ iv, is9.getD k2 0 = iv := ⟨_, rfl⟩
              rw [hiv] at hgi
              have HIV := Lib.hid hiv; clear hiv
              by_cases hpos : 0 < iv
              · rw [if_pos hpos] at hgi
                rw [hgi] at hG
                have HG2 := Lib.hid hG; clear hG hgi hhd
                have hd : decide (0 < iv) = true := decide_eq_true hpos
                go_wp2_with fail
                refine HG2.out.mono ?_; rintro r w10 ⟨rfl, hB10⟩
                have st10 := STQ.out.below hB10
                have ST11 := Lib.hid (st10.below (entObj_below w10 h0))
                have hy := entObj_new w10 h0
                clear st10 hB10
                simp only [Option.getD_some, Option.isSome_some, Ent.val]
                have hk32 : (k2 : Int) < 32 := by omega
                go_wp2_with fail
                simp only [entObj] at ST11 hy
                generalize w10.alloc (.cells #[.int .i64 h0.line, .int .i64 h0.state, .int .i64 h0.mode, .int .i64 h0.epoch, .int .u32 h0.d0, .int .u32 h0.d1, .int .u32 h0.d2, .int .u32 h0.d3, .bool h0.held, .bool h0.fresh] 32) = w11 at *
                obtain ⟨d0, d1, d2, d3, d4, d5, d6, d7, d8, d9⟩ := ent_cells ST11.out.h hh0
                obtain ⟨y0, y1, y2, y3, y4, y5, y6, y7, y8, y9⟩ := ent_cells0 hy
                have k1 := ST11.out.icell ST11.out.i (show k2 ≤ 31 by omega)
                rw [HIV.out] at k1
                clear hy
                have hne := fun W => neq_ent h0 h0 W
                simp only [Ent.val, decide_true, Bool.not_true] at hne
                go_quiet (fail)
                go_wp2_with fail
                exact ⟨⟨k2 + 1, by omega, by go_num, ST11.out.below (below_drewN (Below.refl _ _) nq)⟩, by simp [intOf]; omega⟩
              · rw [if_neg hpos] at hgi
                rw [hgi] at hG
                have HG2 := Lib.hid hG; clear hG hgi hhd hh0
                have hd : decide (0 < iv) = false := decide_eq_false hpos
                go_wp2_with fail
                refine HG2.out.mono ?_; rintro r w10 ⟨rfl, hB10⟩
                have st10 := STQ.out.below hB10
                have ST11 := Lib.hid (st10.below (zeroObj_below w10))
                have hy := zero_new w10
                clear st10 hB10
                simp only [Option.getD_none, Option.isSome_none, Ent.val, Ent.zero]
                have hk32 : (k2 : Int) < 32 := by omega
                go_wp2_with fail
                simp only [zeroObj] at ST11 hy
                generalize w10.alloc (.cells #[.int .i64 0, .int .i64 0, .int .i64 0, .int .i64 0, .int .u32 0, .int .u32 0, .int .u32 0, .int .u32 0, .bool false, .bool false] 32) = w11 at *
                obtain ⟨y0, y1, y2, y3, y4, y5, y6, y7, y8, y9⟩ := ent_cells0 hy
                simp only [Ent.zero] at y0 y1 y2 y3 y4 y5 y6 y7 y8 y9
                have k1 := ST11.out.icell ST11.out.i (show k2 ≤ 31 by omega)
                rw [HIV.out] at k1
                clear hy
                have hne := fun W => neq_ent Ent.zero Ent.zero W
                simp only [Ent.val, decide_true, Bool.not_true, Ent.zero] at hne
                go_quiet (fail)
                go_wp2_with fail
                exact ⟨⟨k2 + 1, by omega, by go_num, ST11.out.below (below_drewN (Below.refl _ _) nq)⟩, by simp [intOf]; omega⟩
            · obtain rfl : k2 = 32 := by omega
              go_wp2_with fail
              go_roundw
              case rel => exact ⟨k + 1, by omega, by go_num, m9, hv9, is9, STQ.out⟩
              case measure => simp [intOf]; omega
      · have hkb : ((q.kind : Int) == 3) = false := by simp [hk3]
        clear hk3
        go_wp2_with fail
        have hput := ST.out.inv.put hL31 ST.out.il ST.out.hl (e := normL L q.ent) rfl (normL_ok L q.ent)
        have HPUT := Lib.hid hput; clear hput
        refine (Put_any HA4.out ST.out.ok (normL L q.ent) p (HG.out.below HB4.out (Nat.le_refl _))).mono ?_
        rintro r w5 ⟨rfl, hS⟩
        rw [HPUT.out.1]
        simp only [codeErr, if_true]
        have HN0 := Lib.hid (show ¬ arrBlocks A S m wr.heap.size from fun h => Nat.lt_irrefl _ (ST.out.at_.lt h))
        have hE5 := HE4.out.fr hS.fr HN0.out
        have hH5 := HH4.out.fr hS.fr ST.out.nH
        have hI5 := HI4.out.fr hS.fr ST.out.nI
        have hhv := ST.out.hl
        obtain ⟨h0, hh0⟩ : ∃ h0, hv[L]? = some h0 := ⟨_, List.getElem?_eq_getElem (by omega)⟩
        clear c0 c1 c2 c3 c4 c5 c6 c7 c8 c9 q0
        obtain ⟨c0, c1, c2, c3, c4, c5, c6, c7, c8, c9⟩ := ent_cells0 hE5
        simp only [normL] at c0 c1 c2 c3 c4 c5 c6 c7 c8 c9
        obtain ⟨d0, d1, d2, d3, d4, d5, d6, d7, d8, d9⟩ := ent_cells hH5 hh0
        have k1 := ST.out.icell hI5 hL31
        have f1 := hH5.free
        have f2 := hI5.free
        have hB5 := HB4.out.trans (hS.below ST.out.bl HB4.out.size)
        have HS := Lib.hid hS
        have HB5 := Lib.hid hB5
        have HH5 := Lib.hid hH5
        have HI5 := Lib.hid hI5
        have hne1 : wr.heap.size ≠ w1.heap.size := Nat.ne_of_gt ST.out.lH
        have hne2 : w1.heap.size ≠ wr.heap.size := Nat.ne_of_lt ST.out.lH
        have hL32 : (L : Int) < 32 := by omega
        clear hS hE5 hH5 hI5 hB5 hh0 hhv
        go_wp2_with fail
        go_region
        have hlt5 : L < hv.length := by have := ST.out.hl; omega
        have hC := store_ent HH5.out hlt5 (normL L q.ent)
        have hCF : Fr (fun k => k = w1.heap.size) w5 ((((((((((w5.setCell ⟨w1.heap.size, L * 10, none⟩ (.int .i64 (L : Int))).setCell ⟨w1.heap.size, L * 10 + 1, none⟩ (.int .i64 (within q.ent.state 1 4))).setCell ⟨w1.heap.size, L * 10 + 2, none⟩ (.int .i64 (within q.ent.mode 0 3))).setCell ⟨w1.heap.size, L * 10 + 3, none⟩ (.int .i64 (within q.ent.epoch 0 9))).setCell ⟨w1.heap.size, L * 10 + 4, none⟩ (.int .u32 q.ent.d0)).setCell ⟨w1.heap.size, L * 10 + 5, none⟩ (.int .u32 q.ent.d1)).setCell ⟨w1.heap.size, L * 10 + 6, none⟩ (.int .u32 q.ent.d2)).setCell ⟨w1.heap.size, L * 10 + 7, none⟩ (.int .u32 q.ent.d3)).setCell ⟨w1.heap.size, L * 10 + 8, none⟩ (.bool q.ent.held)).setCell ⟨w1.heap.size, L * 10 + 9, none⟩ (.bool q.ent.fresh)) := store_ent_fr L _ _ _ _ _ _ _ _ _ _
        have ST6 := Lib.hid (show KeepSt w ((((((((((((w5.setCell ⟨w1.heap.size, L * 10, none⟩ (.int .i64 (L : Int))).setCell ⟨w1.heap.size, L * 10 + 1, none⟩ (.int .i64 (within q.ent.state 1 4))).setCell ⟨w1.heap.size, L * 10 + 2, none⟩ (.int .i64 (within q.ent.mode 0 3))).setCell ⟨w1.heap.size, L * 10 + 3, none⟩ (.int .i64 (within q.ent.epoch 0 9))).setCell ⟨w1.heap.size, L * 10 + 4, none⟩ (.int .u32 q.ent.d0)).setCell ⟨w1.heap.size, L * 10 + 5, none⟩ (.int .u32 q.ent.d1)).setCell ⟨w1.heap.size, L * 10 + 6, none⟩ (.int .u32 q.ent.d2)).setCell ⟨w1.heap.size, L * 10 + 7, none⟩ (.int .u32 q.ent.d3)).setCell ⟨w1.heap.size, L * 10 + 8, none⟩ (.bool q.ent.held)).setCell ⟨w1.heap.size, L * 10 + 9, none⟩ (.bool q.ent.fresh)).setCell ⟨w1.heap.size + 1, L, none⟩ (.int .i64 1)).drew) A S w1.heap.size (w1.heap.size + 1) (arrPut m (normL L q.ent)).2 (hv.set L (normL L q.ent)) (is.set L 1) from
          ⟨(((HB5.out.trans (hCF.below (B := w.heap.size) (fun k e => by rw [e]; exact ST.out.gH) HB5.out.size)).setCell ST.out.gI _)).drew,
           ((HS.out.at_.fr hCF (fun k hk e => ST.out.nH ((arrBlocks_map HS.out.map _).1 (e ▸ hk)))).fr (fr_set (S := fun k => k = w1.heap.size + 1) (.inl rfl) (Fr.refl _ _)) (fun k hk e => ST.out.nI ((arrBlocks_map HS.out.map _).1 (e ▸ hk)))).fr (Fr.drew (Fr.refl (fun _ => False) _)) (fun _ _ h => h),
           HS.out.ok, HS.out.blocks ST.out.bl,
           (hC.other ST.out.hi _).drew, by rw [List.map_set]; exact ((HI5.out.fr hCF (fun e => ST.out.hi e.symm)).set _ _).drew, by simp [ST.out.hl], by simp [ST.out.il], ST.out.gH, ST.out.gI, ST.out.hi,
           fun x => ST.out.nH ((arrBlocks_map HS.out.map _).1 x), fun x => ST.out.nI ((arrBlocks_map HS.out.map _).1 x), HPUT.out.2⟩)
        clear hC hCF
        go_upto_region 20 with (fail)
        clear c0 c1 c2 c3 c4 c5 c6 c7 c8 c9 d0 d1 d2 d3 d4 d5 d6 d7 d8 d9 k1 f1 f2 HS HB5 HH5 HI5
        generalize (((((((((((w5.setCell ⟨w1.heap.size, L * 10, none⟩ (.int .i64 (L : Int))).setCell ⟨w1.heap.size, L * 10 + 1, none⟩ (.int .i64 (within q.ent.state 1 4))).setCell ⟨w1.heap.size, L * 10 + 2, none⟩ (.int .i64 (within q.ent.mode 0 3))).setCell ⟨w1.heap.size, L * 10 + 3, none⟩ (.int .i64 (within q.ent.epoch 0 9))).setCell ⟨w1.heap.size, L * 10 + 4, none⟩ (.int .u32 q.ent.d0)).setCell ⟨w1.heap.size, L * 10 + 5, none⟩ (.int .u32 q.ent.d1)).setCell ⟨w1.heap.size, L * 10 + 6, none⟩ (.int .u32 q.ent.d2)).setCell ⟨w1.heap.size, L * 10 + 7, none⟩ (.int .u32 q.ent.d3)).setCell ⟨w1.heap.size, L * 10 + 8, none⟩ (.bool q.ent.held)).setCell ⟨w1.heap.size, L * 10 + 9, none⟩ (.bool q.ent.fresh)).setCell ⟨w1.heap.size + 1, L, none⟩ (.int .i64 1)).drew = w6 at *
        obtain ⟨T, hT⟩ := Int.eq_ofNat_of_zero_le (within_ge line 0 31 (by omega))
        have hT31 : T ≤ 31 := by have := within_le line 0 31 (by omega); omega
        have HT := Lib.hid hT; clear hT
        go_wp2_with fail
        refine (book_Within _ _ _ _ (by omega) (by omega) (by omega)).mono ?_; rintro r w8 ⟨rfl, rfl⟩
        rw [HT.out]
        go_wp2_with fail
        refine (Touch_any ST6.out.at_ ST6.out.ok T).mono ?_; rintro r w9 ⟨rfl, hS9⟩
        have ST9 := Lib.hid (ST6.out.step hS9 (ST6.out.inv.touch hT31))
        clear hS9
        go_wp2_with fail
        obtain ⟨m9, hv9, is9, st9⟩ : ∃ m hv is, KeepSt w w9 A S w1.heap.size (w1.heap.size + 1) m hv is := ⟨_, _, _, ST9.out⟩
        clear ST9 ST6 ST HLq HA4 HH4 HI4 HE4 HF4 HB4
        have ST9 := Lib.hid st9; clear st9
        obtain ⟨wo, hwo⟩ : ∃ wo : World, wo = wr := ⟨_, rfl⟩
        go_loopw [11] (fun j wq => ∃ k2 : Nat, k2 ≤ 32 ∧ j = .int .i64 k2 ∧ KeepSt w wq A S w1.heap.size (w1.heap.size + 1) m9 hv9 is9) (fun j _ => 32 - (intOf j).toNat)
        case atStart => exact ⟨0, by omega, rfl, ST9.out⟩
        case round =>
          obtain ⟨k2, hk2, rfl, stq⟩ := hrel
          have STQ := Lib.hid stq; clear stq
          by_cases hlt3 : k2 < 32
          · have hG := Get_any STQ.out.at_ STQ.out.ok k2
            have hgi := STQ.out.inv.get k2 (by omega)
            obtain ⟨h0, hh0⟩ : ∃ h0, hv9[k2]? = some h0 := ⟨_, List.getElem?_eq_getElem (by have := STQ.out.hl; omega)⟩
            have hhd : hv9.getD k2 Ent.zero = h0 := by simp [List.getD, hh0]
            rw [hhd] at hgi
            obtain ⟨iv, hiv⟩ : ∃ iv, is9.getD k2 0 = iv := ⟨_, rfl⟩
            rw [hiv] at hgi
            have HIV := Lib.hid hiv; clear hiv
            by_cases hpos : 0 < iv
            · rw [if_pos hpos] at hgi
              rw [hgi] at hG
              have HG2 := Lib.hid hG; clear hG hgi hhd
              have hd : decide (0 < iv) = true := decide_eq_true hpos
              go_wp2_with fail
              refine HG2.out.mono ?_; rintro r w10 ⟨rfl, hB10⟩
              have st10 := STQ.out.below hB10
              have ST11 := Lib.hid (st10.below (entObj_below w10 h0))
              have hy := entObj_new w10 h0
              clear st10 hB10
              simp only [Option.getD_some, Option.isSome_some, Ent.val]
              have hk32 : (k2 : Int) < 32 := by omega
              go_wp2_with fail
              simp only [entObj] at ST11 hy
              generalize w10.alloc (.cells #[.int .i64 h0.line, .int .i64 h0.state, .int .i64 h0.mode, .int .i64 h0.epoch, .int .u32 h0.d0, .int .u32 h0.d1, .int .u32 h0.d2, .int .u32 h0.d3, .bool h0.held, .bool h0.fresh] 32) = w11 at *
              obtain ⟨d0, d1, d2, d3, d4, d5, d6, d7, d8, d9⟩ := ent_cells ST11.out.h hh0
              obtain ⟨y0, y1, y2, y3, y4, y5, y6, y7, y8, y9⟩ := ent_cells0 hy
              have k1 := ST11.out.icell ST11.out.i (show k2 ≤ 31 by omega)
              rw [HIV.out] at k1
              clear hy
              have hne := fun W => neq_ent h0 h0 W
              simp only [Ent.val, decide_true, Bool.not_true] at hne
              go_quiet (fail)
              go_wp2_with fail
              exact ⟨⟨k2 + 1, by omega, by go_num, ST11.out.below (below_drewN (Below.refl _ _) nq)⟩, by simp [intOf]; omega⟩
            · rw [if_neg hpos] at hgi
              rw [hgi] at hG
              have HG2 := Lib.hid hG; clear hG hgi hhd hh0
              have hd : decide (0 < iv) = false := decide_eq_false hpos
              go_wp2_with fail
              refine HG2.out.mono ?_; rintro r w10 ⟨rfl, hB10⟩
              have st10 := STQ.out.below hB10
              have ST11 := Lib.hid (st10.below (zeroObj_below w10))
              have hy := zero_new w10
              clear st10 hB10
              simp only [Option.getD_none, Option.isSome_none, Ent.val, Ent.zero]
              have hk32 : (k2 : Int) < 32 := by omega
              go_wp2_with fail
              simp only [zeroObj] at ST11 hy
              generalize w10.alloc (.cells #[.int .i64 0, .int .i64 0, .int .i64 0, .int .i64 0, .int .u32 0, .int .u32 0, .int .u32 0, .int .u32 0, .bool false, .bool false] 32) = w11 at *
              obtain ⟨y0, y1, y2, y3, y4, y5, y6, y7, y8, y9⟩ := ent_cells0 hy
              simp only [Ent.zero] at y0 y1 y2 y3 y4 y5 y6 y7 y8 y9
              have k1 := ST11.out.icell ST11.out.i (show k2 ≤ 31 by omega)
              rw [HIV.out] at k1
              clear hy
              have hne := fun W => neq_ent Ent.zero Ent.zero W
              simp only [Ent.val, decide_true, Bool.not_true, Ent.zero] at hne
              go_quiet (fail)
              go_wp2_with fail
              exact ⟨⟨k2 + 1, by omega, by go_num, ST11.out.below (below_drewN (Below.refl _ _) nq)⟩, by simp [intOf]; omega⟩
          · obtain rfl : k2 = 32 := by omega
            go_wp2_with fail
            go_roundw
            case rel => exact ⟨k + 1, by omega, by go_num, m9, hv9, is9, STQ.out⟩
            case measure => simp [intOf]; omega
    · have hnot : (decide ((k : Int) < (l.length : Int)) && decide ((k : Int) < 60)) = false := by simp; omega
      by_cases hlk : k < l.length
      · have h60 : ¬ k < 60 := by omega
        go_wp2_with fail
        refine (array_runs _ p (HG.out.below ST.out.B (Nat.le_refl _))).mono ?_; rintro r w2 ⟨rfl, hB2⟩
        go_wp2_with fail
        go_ret
        exact ⟨rfl, ST.out.B.trans (hB2.mono ST.out.B.size)⟩
      · go_wp2_with fail
        refine (array_runs _ p (HG.out.below ST.out.B (Nat.le_refl _))).mono ?_; rintro r w2 ⟨rfl, hB2⟩
        go_wp2_with fail
        go_ret
        exact ⟨rfl, ST.out.B.trans (hB2.mono ST.out.B.size)⟩
end Go.Proofs.YtjmlficbnljiaaaDoor
