/- The machine's table of misses: Insert of one into a new row; Insert as a whole. -/
import Derived.Test.YtjmlficbnljiaaaDoorMisE
namespace Go.Proofs.YtjmlficbnljiaaaDoor
open Go.RowKit

set_option maxHeartbeats 3200000 in
set_option maxRecDepth 100000 in
theorem insert_grow {w : World} {B g c n i : Nat} {l : List Mis} {cur : List Value} (hb : Blk w g 85 cur) (hB : B ≤ w.heap.size) (hln : l.length = n) (hcl : cur.length = c * 2) (htk : cur.take (n * 2) = flat Mis.cells l) (hin : i < n) (hn8 : n ≤ 8) (hnc : n ≤ c) (hroom : c < n + 1)
    (x : Mis) (vb : Nat) (hx : Blk w vb 85 x.cells) :
    Calls Tryd.prog 56 #[.slice (some ⟨g, 0, none⟩) n c, .int .i64 i, .slice (some ⟨vb, 0, none⟩) 1 1] w (InsPost w B (.slice (some ⟨g, 0, none⟩) n c) l i x) := by
  obtain ⟨i0, hi0, hz0, hzs, hzb⟩ := info_parts infoMis
  obtain ⟨D, hD⟩ : ∃ D, D = (cur.drop (i * 2)).take ((n - i) * 2) := ⟨_, rfl⟩
  have hDl : D.length = (n - i) * 2 := by rw [hD, List.length_take, List.length_drop]; omega
  have hDf : D = (flat Mis.cells l).drop (i * 2) := by
    rw [hD, ← htk, List.drop_take]; congr 1; omega
  have hD1 : ∀ u ∈ D, u.oneCell' = true := fun u hu => mis_one l u (by rw [hDf] at hu; exact List.mem_of_mem_drop hu)
  have hx1 : ∀ u ∈ x.cells, u.oneCell' = true := fun u hu => mis_one [x] u (by simpa [flat] using hu)
  have hx2 : x.cells.length = 2 := rfl
  have hkk : (n : Int) + 1 - (i : Int) = ((n + 1 - i : Nat) : Int) := by omega
  have hik : i + (n + 1 - i) = n + 1 := by omega
  have hold : (Builtin.firstCells i0.size i (.slice (some ⟨g, 0, none⟩) i c)).run Tryd.prog w.drew = .ok (cur.take (i * 2)).toArray w.drew := by
    rw [hzs]
    exact run_firstCells_some w.drew 2 i ⟨g, 0, none⟩ i c (cur.take (i * 2)) (by rw [List.length_take]; omega) (fun j v hj => by
      rw [add_zero_at]
      rw [List.getElem?_take] at hj
      split at hj
      · exact (hb.cell j).trans hj
      · cases hj)
  have hrz : ∀ ty, (Builtin.append_ #[79, 3] ty #[.slice (some ⟨g, 0, none⟩) i c, .int .i64 ((n : Int) + 1 - (i : Int))]).run Tryd.prog w =
      .ok (.slice (some ⟨w.heap.size, 0, none⟩) (n + 1) (grownCap w (n + 1) c 85)) (w.drew.alloc (.cells ((cur.take (i * 2)).toArray ++ Builtin.zeroCells Mis.zero.val.cells (n + 1 - i) ++ Builtin.zeroCells Mis.zero.val.cells (grownCap w (n + 1) c 85 - (n + 1))) 85)) := fun ty => by
    have h := Lib.run_append_grow_zeros w 79 3 ty 85 i0 _ .i64 .i64 Tryd.underlying79 Tryd.underlying3 hi0 hz0 (some ⟨g, 0, none⟩) i c (cur.take (i * 2)) hold (n + 1 - i) (by omega) (by omega) (by omega) (by omega) (by rw [hzb]; omega) (by rw [hzb, hik]; exact growslice_fits hroom (by omega))
    rw [hik] at h
    rw [hkk]
    exact h
  obtain ⟨G, hG⟩ : ∃ G, G = grownCap w (n + 1) c 85 := ⟨_, rfl⟩
  obtain ⟨ROW, hROW⟩ : ∃ ROW : Array Value, ROW = (cur.take (i * 2)).toArray ++ Builtin.zeroCells Mis.zero.val.cells (n + 1 - i) ++ Builtin.zeroCells Mis.zero.val.cells (G - (n + 1)) := ⟨_, rfl⟩
  rw [← hG] at hrz
  rw [← hROW] at hrz
  have hGn : n + 1 ≤ G := by rw [hG]; exact grownCap_ge w _ _ _
  have hGm : G ≤ maxLen := by rw [hG]; exact grownCap_le_maxLen w (n + 1) c _ (by unfold maxLen; omega)
  have hRs : ROW.size = G * 2 := by
    rw [hROW]
    simp only [Array.size_append, List.size_toArray, List.length_take, size_zeroCells]
    have : Mis.zero.val.cells.size = 2 := rfl
    rw [this]; omega
  have hRt : ROW.toList.take (i * 2) = (flat Mis.cells l).take (i * 2) := by
    rw [hROW, ← htk]
    simp only [Array.toList_append, List.append_assoc]
    rw [List.take_append_of_le_length (by rw [List.length_take]; omega), List.take_take, List.take_take, Nat.min_self, Nat.min_eq_left (by omega)]
  have hbN : Blk (w.alloc (.cells ROW 85)).drew w.heap.size 85 ROW.toList := (Blk.new w ROW 85).drew
  have hxN : Blk (w.alloc (.cells ROW 85)).drew vb 85 x.cells := (hx.alloc _).drew
  have hb2 : Blk ((w.alloc (.cells ROW 85)).drew.setCells w.heap.size (i * 2) x.cells).drew w.heap.size 85 (setRow ROW.toList (i * 2) x.cells) := (Blk.sets _ _ _ _ hbN).drew
  have hFN : Fr (fun _ => False) w ((w.alloc (.cells ROW 85)).drew.setCells w.heap.size (i * 2) x.cells).drew := (fr_sets _ _ _ _ (.inr (Nat.le_refl _)) ((Fr.refl _ _).alloc _).drew).drew
  have hg2 := hb.fr hFN (fun e => e)
  have hb3 : Blk (((w.alloc (.cells ROW 85)).drew.setCells w.heap.size (i * 2) x.cells).drew.setCells w.heap.size ((i + 1) * 2) D) w.heap.size 85 (setRow (setRow ROW.toList (i * 2) x.cells) ((i + 1) * 2) D) := Blk.sets _ _ _ _ hb2
  have hRl : ROW.toList.length = G * 2 := by rw [Array.length_toList]; exact hRs
  have hcpA : ∀ ty dc, (Builtin.copy_ #[79, 79] ty #[.slice (some ⟨w.heap.size, i * 2, none⟩) (n + 1 - i) dc, .slice (some ⟨vb, 0, none⟩) 1 1]).run Tryd.prog (w.alloc (.cells ROW 85)).drew = .ok (goInt (1 : Nat)) ((w.alloc (.cells ROW 85)).drew.setCells w.heap.size (i * 2) x.cells) := fun ty dc =>
    copy_blk hbN hxN ty _ _ _ dc _ 1 1 x.cells (by simp only [Nat.min_def]; split <;> omega) rfl (by simp [Mis.cells]) (by omega) hx1
  have hcpB : ∀ ty dc sc, (Builtin.copy_ #[79, 79] ty #[.slice (some ⟨w.heap.size, (i + 1) * 2, none⟩) (n + 1 - (i + 1)) dc, .slice (some ⟨g, i * 2, none⟩) (n - i) sc]).run Tryd.prog ((w.alloc (.cells ROW 85)).drew.setCells w.heap.size (i * 2) x.cells).drew = .ok (goInt ((n - i : Nat))) (((w.alloc (.cells ROW 85)).drew.setCells w.heap.size (i * 2) x.cells).drew.setCells w.heap.size ((i + 1) * 2) D) := fun ty dc sc =>
    copy_blk hb2 hg2 ty _ _ _ dc _ sc (n - i) D (by simp only [Nat.min_def]; split <;> omega) hD (by omega) (by rw [setRow_length]; omega) hD1
  have HP : Hid (InsPost w B (.slice (some ⟨g, 0, none⟩) n c) l i x (.returned (.slice (some ⟨w.heap.size, 0, none⟩) (n + 1) G)) (((w.alloc (.cells ROW 85)).drew.setCells w.heap.size (i * 2) x.cells).drew.setCells w.heap.size ((i + 1) * 2) D)) := Lib.hid (by
    refine ⟨_, rfl, ⟨by rw [flat_length Mis.cells_length, insAt_length l i x (by omega)], .inr ⟨w.heap.size, G, _, by rw [hln], hB, hb3, by omega, hGm, by rw [List.size_toArray, setRow_length, setRow_length]; exact hRl, ?_⟩⟩,
      (fr_sets D ((i + 1) * 2) w _ (.inr (Nat.le_refl _)) hFN).mono (fun q _ e => e.elim), fun q hq => .inr (by cases hq; exact Nat.le_refl _)⟩
    rw [List.toList_toArray, hln, insAt_cells l i x (by omega), ← hDf]
    have e1 : setRow ROW.toList (i * 2) x.cells = ROW.toList.take (i * 2) ++ (x.cells ++ ROW.toList.drop (i * 2 + x.cells.length)) := setRow_spec _ _ _ (by omega)
    have e2 : (setRow ROW.toList (i * 2) x.cells).take ((i + 1) * 2) = (flat Mis.cells l).take (i * 2) ++ x.cells := by
      rw [e1, hRt, ← List.append_assoc, List.take_append_of_le_length (by rw [List.length_append, List.length_take, flat_length Mis.cells_length, hx2]; omega), List.take_of_length_le (by rw [List.length_append, List.length_take, flat_length Mis.cells_length, hx2]; omega)]
    rw [setRow_spec _ _ _ (by rw [setRow_length]; omega), e2, ← List.append_assoc,
      List.take_append_of_le_length (by rw [List.length_append, List.length_append, List.length_take, flat_length Mis.cells_length, hx2, hDl]; omega),
      List.take_of_length_le (by rw [List.length_append, List.length_append, List.length_take, flat_length Mis.cells_length, hx2, hDl]; omega), List.append_assoc])
  have hz2 : ¬ ((i : Int) = (n : Int)) := by omega
  have hz3 : (c : Int) < (n : Int) + 1 := by omega
  have hG63 : G ≤ 9223372036854775807 := by unfold maxLen at hGm; omega
  have hGi : ¬ (G = i) := by omega
  have hGim : ¬ (G = i + 1) := by omega
  have hci : ¬ (c = i) := by omega
  have hw1 : IntKind.i64.wrap ((i : Int) + 1) = (i : Int) + 1 := by rw [IntKind.wrap_i64]; omega
  have hb1 : (0 : Int) ≤ (i : Int) + 1 := by omega
  have hin' : i ≤ n := by omega
  have htn : ((i : Int) + 1).toNat = i + 1 := by omega
  have hb4 : (i : Int) ≤ (n : Int) := by omega
  have HRZ := Lib.hid hrz
  have HCA := Lib.hid hcpA
  have HCB := Lib.hid hcpB
  clear hb hx hold hrz hG hROW hRs hRt hbN hxN hb2 hFN hg2 hb3 hRl hcpA hcpB hD hDl hDf hD1 hx1 htk hcl hln hkk hik hx2
  go_enter Tryd.func56, Tryd.ntmps56
  go_wp2_with (first
    | (at_builtin; refine Lib.wpList_append_run _ rfl _ _ _ _ rfl _ _ rfl rfl _ _ (HRZ.out _) ?_)
    | (with_reducible refine wpList_copy_eq _ rfl _ _ 79 79 rfl _ _ rfl rfl (HCA.out _ _) ?_))
  go_region_law (refine step_copy_eq rfl _ _ 79 79 rfl (.slice (some ⟨w.heap.size, (i + 1) * 2, none⟩) (n + 1 - (i + 1)) (G - (i + 1))) (.slice (some ⟨g, i * 2, none⟩) (n - i) (c - i)) (by simp [Act.eval, Act.put]) (by simp [Act.eval, Act.put]) (HCB.out _ (G - (i + 1)) (c - i)) ?_)
  go_wp2_with fail
  go_ret
  exact HP.out

/-- Insert of one, wherever. -/
theorem insert_any {w : World} {B : Nat} {v : Value} {l : List Mis} (h : w.ownsRow B 85 2 v l.length (flat Mis.cells l)) (hl : l.length ≤ 8) (hB : B ≤ w.heap.size) (i : Nat) (hi : i ≤ l.length) (x : Mis) (vb : Nat) (hx : Blk w vb 85 x.cells) (hne : ∀ g, v.ownBlock = some g → vb ≠ g) :
    Calls Tryd.prog 56 #[v, .int .i64 i, .slice (some ⟨vb, 0, none⟩) 1 1] w (InsPost w B v l i x) := by
  by_cases hil : i = l.length
  · subst hil; exact insert_end h hl hB x vb hx
  · have hlt : i < l.length := by omega
    rcases h.2 with ⟨-, h0⟩ | ⟨g, cap, cur, rfl, hBg, hg, hnc, hcm, hcs, htk⟩
    · omega
    have hbk : Blk w g 85 cur.toList := by simpa [Blk] using hg
    have hcl : cur.toList.length = cap * 2 := by rw [Array.length_toList]; exact hcs
    by_cases hr : l.length + 1 ≤ cap
    · exact insert_shift hbk hBg rfl hcl htk hlt hl hr hcm x vb hx (hne g rfl)
    · exact insert_grow hbk hB rfl hcl htk hlt hl hnc (by omega) x vb hx
end Go.Proofs.YtjmlficbnljiaaaDoor
