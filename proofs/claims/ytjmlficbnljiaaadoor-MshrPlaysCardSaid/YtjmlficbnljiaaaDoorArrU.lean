/- The walks of the array's Put. -/
import Derived.Test.YtjmlficbnljiaaaDoorArrQ
namespace Go.Proofs.YtjmlficbnljiaaaDoor
open Go.RowKit

abbrev opPut : ByteArray := { data := #[97, 114, 114, 97, 121, 46, 80, 117, 116] }
def Ent.Bad (e : Ent) : Prop := e.state < 1 ∨ 4 < e.state ∨ e.mode < 0 ∨ 3 < e.mode ∨ e.epoch < 0 ∨ 255 < e.epoch
instance (e : Ent) : Decidable e.Bad := by unfold Ent.Bad; infer_instance

set_option maxHeartbeats 800000 in
set_option maxRecDepth 10000 in
theorem Put_out {w : World} {A : Nat} (e : Ent) (tA : TypeId) (vA : Value) (hG : w.cell? ⟨0, 0, none⟩ = some (.iface tA vA)) (hf : FindC A e.line (-1) none (w.alloc (entObj e))) :
    Calls Tryd.prog 9 #[.pointer (some ⟨A, 0, none⟩), e.val] w fun r w' => r = .returned (errV opPut e.line (.iface tA vA)) ∧ Below w.heap.size w w' := by
  have hgl := block_lt_of_cell hG
  have HG := Lib.hid (cell_below (entObj_below w e) hG hgl)
  have HGL := Lib.hid (Nat.lt_trans hgl (entObj_lt w e))
  have HF := Lib.hid hf; clear hf hG hgl
  unfold Ent.val
  go_enter Tryd.func9, Tryd.ntmps9
  go_wp2_with fail
  refine HF.out.mono ?_; rintro r w1 ⟨rfl, hB⟩
  have c0 := (ent_cells0 ((entObj_new w e).below hB (entObj_lt _ _))).1
  have cg := cell_below hB HG.out HGL.out
  have HB := Lib.hid hB; clear hB
  go_wp2_with fail
  refine (fault_Wrap _ _ _ _ _).mono ?_; rintro r w2 ⟨rfl, rfl⟩
  go_wp2_with fail
  go_ret
  exact ⟨rfl, (entObj_below w e).trans (HB.out.mono (Nat.le_of_lt (entObj_lt _ _)))⟩

set_option maxHeartbeats 1600000 in
set_option maxRecDepth 10000 in
theorem Put_bad {w : World} {A : Nat} (e : Ent) (hb : e.Bad) (tA : TypeId) (vA : Value) (hG : w.cell? ⟨0, 0, none⟩ = some (.iface tA vA)) (idx : Int) (p : Addr) (hf : FindC A e.line idx (some p) (w.alloc (entObj e))) :
    Calls Tryd.prog 9 #[.pointer (some ⟨A, 0, none⟩), e.val] w fun r w' => r = .returned (errV opPut e.line (.iface tA vA)) ∧ Below w.heap.size w w' := by
  have hgl := block_lt_of_cell hG
  have HG := Lib.hid (cell_below (entObj_below w e) hG hgl)
  have HGL := Lib.hid (Nat.lt_trans hgl (entObj_lt w e))
  have HF := Lib.hid hf; clear hf hG hgl
  unfold Ent.val
  rcases hb with hb | hb | hb | hb | hb | hb
  all_goals
    go_enter Tryd.func9, Tryd.ntmps9
    go_wp2_with fail
    refine HF.out.mono ?_; rintro r w1 ⟨rfl, hB⟩
    obtain ⟨c0, c1, c2, c3, _⟩ := ent_cells0 ((entObj_new w e).below hB (entObj_lt _ _))
    have cg := cell_below hB HG.out HGL.out
    have HB := Lib.hid hB; clear hB
    go_wp2_with fail
    all_goals
      refine (fault_Wrap _ _ _ _ _).mono ?_; rintro r w2 ⟨rfl, rfl⟩
      go_wp2_with fail
      go_ret
      exact ⟨rfl, (entObj_below w e).trans (HB.out.mono (Nat.le_of_lt (entObj_lt _ _)))⟩

set_option maxHeartbeats 1600000 in
set_option maxRecDepth 10000 in
theorem Put_found {w : World} {A S : Nat} {l : List (Nat × SetM)} (h : ArrAt w A S l) (e : Ent) (hb : ¬ e.Bad) (i : Nat) (x : Nat × SetM) (hx : l[i]? = some x) (hk : x.2.ways.length ≤ 8)
    (j : Nat) (hj : j < x.2.ways.length) (hf : FindC A e.line j (some ⟨S, i * 2, none⟩) (w.alloc (entObj e))) :
    Calls Tryd.prog 9 #[.pointer (some ⟨A, 0, none⟩), e.val] w fun r w' => r = .returned .nilIface ∧ ArrAt w' A S (l.set i (wayUp x j e)) ∧ Fr (fun k => k = x.1) w w' := by
  have hm : x ∈ l := List.mem_of_getElem? hx
  obtain ⟨e0, he0⟩ : ∃ e0, x.2.ways[j]? = some e0 := ⟨_, List.getElem?_eq_getElem hj⟩
  have HE := Lib.hid he0; clear he0
  have HF := Lib.hid hf; clear hf
  have HX := Lib.hid hx; clear hx
  have HA := Lib.hid (h.below (entObj_below w e)); clear h
  unfold Ent.Bad at hb
  have g1 : 1 ≤ e.state := by omega
  have g2 : e.state ≤ 4 := by omega
  have g3 : 0 ≤ e.mode := by omega
  have g4 : e.mode ≤ 3 := by omega
  have g5 : 0 ≤ e.epoch := by omega
  have g6 : e.epoch ≤ 255 := by omega
  clear hb
  unfold Ent.val
  go_enter Tryd.func9, Tryd.ntmps9
  go_wp2_with fail
  refine HF.out.mono ?_; rintro r w1 ⟨rfl, hB⟩
  have hA := HA.out.below hB
  have cs := hA.slice HX.out
  obtain ⟨b0, b1, b2, b3, b4, b5, b6, b7, b8, b9⟩ := ent_cells (hA.ways x hm) HE.out
  obtain ⟨c0, c1, c2, c3, c4, c5, c6, c7, c8, c9⟩ := ent_cells0 ((entObj_new w e).below hB (entObj_lt _ _))
  have hfr := (hA.ways x hm).free
  have HA1 := Lib.hid hA; clear hA
  have HB := Lib.hid hB; clear hB
  go_wp2_with fail
  go_still_tail 7, (by kernel_rfl)
  change wpList _ _ _ _ _ w1.drew
  go_wp2
  go_ret
  refine ⟨rfl, ?_, ?_⟩
  · exact HA1.out.setWay HX.out e (Fr.drew (store_ent_fr j _ _ _ _ _ _ _ _ _ _)) (Blk.drew (store_ent (HA1.out.ways x hm) hj e))
  · exact Fr.drew ((Fr.of_below ((entObj_below w e).trans (HB.out.mono (Nat.le_of_lt (entObj_lt _ _))))).then (store_ent_fr j _ _ _ _ _ _ _ _ _ _))

set_option maxHeartbeats 1600000 in
set_option maxRecDepth 10000 in
theorem Put_full {w : World} {A S : Nat} {l : List (Nat × SetM)} (h : ArrAt w A S l) (e : Ent) (hb : ¬ e.Bad) (tF : TypeId) (vF : Value) (hG : w.cell? ⟨1, 0, none⟩ = some (.iface tF vF))
    (i : Nat) (x : Nat × SetM) (hx : l[i]? = some x) (hk : x.2.ways.length ≤ 8) (hfree : idxOf isFree x.2.ways < 0)
    (idx : Int) (hidx : idx < 0) (hf : FindC A e.line idx (some ⟨S, i * 2, none⟩) (w.alloc (entObj e))) :
    Calls Tryd.prog 9 #[.pointer (some ⟨A, 0, none⟩), e.val] w fun r w' => r = .returned (errV opPut e.line (.iface tF vF)) ∧ Below w.heap.size w w' := by
  have hgl := block_lt_of_cell hG
  have HG := Lib.hid (cell_below (entObj_below w e) hG hgl)
  have HGL := Lib.hid (Nat.lt_trans hgl (entObj_lt w e))
  have HF := Lib.hid hf; clear hf hG hgl
  have HX := Lib.hid hx; clear hx
  have HA := Lib.hid (h.below (entObj_below w e)); clear h
  unfold Ent.Bad at hb
  have g1 : 1 ≤ e.state := by omega
  have g2 : e.state ≤ 4 := by omega
  have g3 : 0 ≤ e.mode := by omega
  have g4 : e.mode ≤ 3 := by omega
  have g5 : 0 ≤ e.epoch := by omega
  have g6 : e.epoch ≤ 255 := by omega
  clear hb
  unfold Ent.val
  go_enter Tryd.func9, Tryd.ntmps9
  go_wp2_with fail
  refine HF.out.mono ?_; rintro r w1 ⟨rfl, hB⟩
  have hBlk := (entObj_new w e).below hB (entObj_lt _ _)
  obtain ⟨c0, c1, c2, c3, _⟩ := ent_cells0 hBlk
  have hlt := hBlk.lt
  have HBlk := Lib.hid hBlk; clear hBlk
  have cg := cell_below hB HG.out HGL.out
  have HG2 := Lib.hid cg
  have HG2L := Lib.hid (block_lt_of_cell cg)
  clear cg
  have HB := Lib.hid hB; clear hB
  go_wp2_with fail
  refine (free_any (HA.out.below HB.out) i x HX.out hk).mono ?_; rintro r w2 ⟨rfl, hB2⟩
  have c0' := (ent_cells0 (HBlk.out.below hB2 hlt)).1
  have cg := cell_below hB2 HG2.out HG2L.out
  clear c0 c1 c2 c3
  have HB2 := Lib.hid hB2; clear hB2
  go_wp2_with fail
  refine (fault_Wrap _ _ _ _ _).mono ?_; rintro r w3 ⟨rfl, rfl⟩
  go_wp2_with fail
  go_ret
  exact ⟨rfl, (entObj_below w e).trans ((HB.out.mono (Nat.le_of_lt (entObj_lt _ _))).trans (HB2.out.mono (Nat.le_trans (Nat.le_of_lt (entObj_lt w e)) HB.out.size)))⟩

set_option maxHeartbeats 1600000 in
set_option maxRecDepth 10000 in
theorem Put_new {w : World} {A S : Nat} {l : List (Nat × SetM)} (h : ArrAt w A S l) (e : Ent) (hb : ¬ e.Bad)
    (i : Nat) (x : Nat × SetM) (hx : l[i]? = some x) (hk : x.2.ways.length ≤ 8) (j : Nat) (hj : j < x.2.ways.length) (hfree : idxOf isFree x.2.ways = j)
    (idx : Int) (hidx : idx < 0) (hf : FindC A e.line idx (some ⟨S, i * 2, none⟩) (w.alloc (entObj e))) :
    Calls Tryd.prog 9 #[.pointer (some ⟨A, 0, none⟩), e.val] w fun r w' => r = .returned .nilIface ∧ ArrAt w' A S (l.set i (wayUp x j e)) ∧ Fr (fun k => k = x.1) w w' := by
  have hm : x ∈ l := List.mem_of_getElem? hx
  obtain ⟨e0, he0⟩ : ∃ e0, x.2.ways[j]? = some e0 := ⟨_, List.getElem?_eq_getElem hj⟩
  have HE := Lib.hid he0; clear he0
  have HF := Lib.hid hf; clear hf
  have HX := Lib.hid hx; clear hx
  have HFR := Lib.hid hfree; clear hfree
  have HA := Lib.hid (h.below (entObj_below w e)); clear h
  unfold Ent.Bad at hb
  have g1 : 1 ≤ e.state := by omega
  have g2 : e.state ≤ 4 := by omega
  have g3 : 0 ≤ e.mode := by omega
  have g4 : e.mode ≤ 3 := by omega
  have g5 : 0 ≤ e.epoch := by omega
  have g6 : e.epoch ≤ 255 := by omega
  clear hb
  unfold Ent.val
  go_enter Tryd.func9, Tryd.ntmps9
  go_wp2_with fail
  refine HF.out.mono ?_; rintro r w1 ⟨rfl, hB⟩
  have hBlk := (entObj_new w e).below hB (entObj_lt _ _)
  obtain ⟨c0, c1, c2, c3, _⟩ := ent_cells0 hBlk
  have hlt := hBlk.lt
  have HBlk := Lib.hid hBlk; clear hBlk
  have HB := Lib.hid hB; clear hB
  go_wp2_with fail
  refine (free_any (HA.out.below HB.out) i x HX.out hk).mono ?_; rintro r w2 ⟨rfl, hB2⟩
  rw [HFR.out]
  clear c0 c1 c2 c3
  have hA := (HA.out.below HB.out).below hB2
  have cs := hA.slice HX.out
  obtain ⟨b0, b1, b2, b3, b4, b5, b6, b7, b8, b9⟩ := ent_cells (hA.ways x hm) HE.out
  obtain ⟨c0, c1, c2, c3, c4, c5, c6, c7, c8, c9⟩ := ent_cells0 (HBlk.out.below hB2 hlt)
  have hfr := (hA.ways x hm).free
  have HA1 := Lib.hid hA; clear hA
  have HB2 := Lib.hid hB2; clear hB2
  go_wp2_with fail
  go_still_tail 7, (by kernel_rfl)
  change wpList _ _ _ _ _ w2.drew
  go_wp2
  go_ret
  refine ⟨rfl, ?_, ?_⟩
  · exact HA1.out.setWay HX.out e (Fr.drew (store_ent_fr j _ _ _ _ _ _ _ _ _ _)) (Blk.drew (store_ent (HA1.out.ways x hm) hj e))
  · exact Fr.drew ((Fr.of_below ((entObj_below w e).trans ((HB.out.mono (Nat.le_of_lt (entObj_lt _ _))).trans (HB2.out.mono (Nat.le_trans (Nat.le_of_lt (entObj_lt w e)) HB.out.size))))).then (store_ent_fr j _ _ _ _ _ _ _ _ _ _))
end Go.Proofs.YtjmlficbnljiaaaDoor
