/- The machine's table of misses: Insert of one: at the end, in place, or into a new row. -/
import Derived.Test.YtjmlficbnljiaaaDoorMisD
import Derived.Lib.AppendZerosOnto
import Derived.Laws.Externs
import Derived.Laws.NewBlocks
namespace Go.Proofs.YtjmlficbnljiaaaDoor
open Go.RowKit

section
variable {P : Program}
theorem wp_copy_eq (w : World) {o : Oper} {a : Act} {K : Act → World → Prop} {Q : Exit → Act → World → Prop} (d s : Operand) (t t' : TypeId)
    (ho : o.op = .call { callee := .builtin .copy, args := #[d, s], argTypes := #[t, t'] }) (v u : Value) (hd : a.eval d = v) (hs : a.eval s = u) {v' : Value} {w' : World}
    (hr : (Builtin.copy_ #[t, t'] o.type #[v, u]).run P w = .ok v' w') (h : K (a.put o.dst v') w') : o.wp P a w K Q := by
  unfold Oper.wp execOp
  simp only [ho, resolve, invoke, builtin, Sem.run_bind, Sem.run_pure, Result.andThen_ok, List.map_toArray, List.map_cons, List.map_nil, hd, hs, hr]
  exact h
theorem wpList_copy_eq (w : World) {ops : Array Oper} {rest : List Oper} {o : Oper} {a : Act} {Q : Exit → Act → World → Prop} (hgd : o.guard = none) (d s : Operand) (t t' : TypeId)
    (ho : o.op = .call { callee := .builtin .copy, args := #[d, s], argTypes := #[t, t'] }) (v u : Value) (hd : a.eval d = v) (hs : a.eval s = u) {v' : Value} {w' : World}
    (hr : (Builtin.copy_ #[t, t'] o.type #[v, u]).run P w = .ok v' w') (h : wpList P ops Q rest (a.put o.dst v') w') : wpList P ops Q (o :: rest) a w :=
  wpList_plain hgd fun _ hK => wp_copy_eq w d s t t' ho v u hd hs hr (hK _ _ h)
theorem step_copy_eq {ops : Array Oper} {o : Oper} {a : Act} {w : World} {K : Act → World → Prop} {Q : Exit → Act → World → Prop} {E : Prop}
    (hg : o.guard = none) (d x : Operand) (dT sT : TypeId) (hop : o.op = Op.call { callee := Callee.builtin Builtin.copy, args := #[d, x], argTypes := #[dT, sT] })
    (v u : Value) (hd : a.eval d = v) (hx : a.eval x = u) {v' : Value} {w' : World} (hr : (Builtin.copy_ #[dT, sT] o.type #[v, u]).run P w = .ok v' w') (hK : K (a.put o.dst v') w') :
    if Region.wanted o (yielded ops a.tmps) = true then Oper.wp P o a w K Q else E := by
  have hw : Region.wanted o (yielded ops a.tmps) = true := by simp [Region.wanted, hg]
  rw [if_pos hw]
  unfold Oper.wp
  simp [execOp, hop, resolve, invoke, builtin, hd, hx, hr, Result.andThen]
  exact hK
end

theorem size_mis : (Tryd.prog.info? 85).map (·.size) = some 2 := by kernel_rfl
theorem sizeOf_mis : ∀ w, (Go.sizeOf 85).run Tryd.prog w = .ok 2 w := fun _ => by kernel_rfl
theorem at_add (b o j : Nat) : (⟨b, o, none⟩ : Addr).add j = ⟨b, o + j, none⟩ := by unfold Addr.add; split <;> simp_all
theorem Blk.shape {w : World} {b : Nat} {t : TypeId} {l : List Value} (h : Blk w b t l) : w.shape? b = some (t, l.length) := by
  have h' : w.heap[b]? = some (.cells l.toArray t (0, 0)) := h
  simp [World.shape?, h']

/-- 'copy' into a block known whole, out of one. -/
theorem copy_blk {W : World} {b c : Nat} {tb tc : TypeId} {lb lc : List Value} (hb : Blk W b tb lb) (hc : Blk W c tc lc) (ty : TypeId) (o oc dLen dCap sLen sCap m : Nat) (cs : List Value)
    (hm : m = Nat.min sLen dLen) (hcs : cs = (lc.drop oc).take (m * 2)) (hlc : oc + m * 2 ≤ lc.length) (hlb : o + m * 2 ≤ lb.length) (h1 : ∀ u ∈ cs, u.oneCell' = true) :
    (Builtin.copy_ #[79, 79] ty #[.slice (some ⟨b, o, none⟩) dLen dCap, .slice (some ⟨c, oc, none⟩) sLen sCap]).run Tryd.prog W = .ok (goInt m) (W.setCells b o cs) := by
  have hl : cs.length = m * 2 := by rw [hcs, List.length_take, List.length_drop]; omega
  have h := run_copy_rows (P := Tryd.prog) W 79 79 ty 85 2 b o dLen dCap ⟨c, oc, none⟩ sLen sCap cs Tryd.underlying79 size_mis (by rw [hl, hm])
    (fun j v hj => by
      have hjm : j < m * 2 := by rw [← hl]; exact (List.getElem?_eq_some_iff.1 hj).1
      rw [at_add, hc.cell]
      rw [hcs, List.getElem?_take, if_pos hjm, List.getElem?_drop] at hj
      exact hj)
    (fun j hj => by rw [hb.cell, List.getElem?_eq_getElem (by omega)]; rfl) (fun j _ => hb.free _) h1
  rw [hm]
  exact h

/-- The row with one more in its midst. -/
def insAt (l : List Mis) (i : Nat) (x : Mis) : List Mis := l.take i ++ x :: l.drop i
theorem insAt_length (l : List Mis) (i : Nat) (x : Mis) (hi : i ≤ l.length) : (insAt l i x).length = l.length + 1 := by
  simp [insAt]; omega
theorem insAt_cells (l : List Mis) (i : Nat) (x : Mis) (hi : i ≤ l.length) : flat Mis.cells (insAt l i x) = (flat Mis.cells l).take (i * 2) ++ (x.cells ++ (flat Mis.cells l).drop (i * 2)) := by
  rw [flat_take Mis.cells_length l i hi, flat_drop Mis.cells_length l i hi]
  simp [insAt, flat]

/-- What Insert owes. -/
def InsPost (w : World) (B : Nat) (v : Value) (l : List Mis) (i : Nat) (x : Mis) (e : Ending) (w' : World) : Prop :=
  ∃ v', e = .returned v' ∧ w'.ownsRow B 85 2 v' (l.length + 1) (flat Mis.cells (insAt l i x)) ∧ Fr (fun q => v.ownBlock = some q) w w' ∧ ∀ g, v'.ownBlock = some g → v.ownBlock = some g ∨ w.heap.size ≤ g

set_option maxHeartbeats 3200000 in
set_option maxRecDepth 100000 in
theorem insert_end_eq {w : World} {B : Nat} {a : Option Addr} {l : List Mis} (h : w.ownsRow B 85 2 (.slice a l.length l.length) l.length (flat Mis.cells l)) (hcm : l.length ≤ maxLen)  (hl : l.length ≤ 8) (hB : B ≤ w.heap.size) (x : Mis) (vb : Nat) (hx : Blk w vb 85 x.cells) :
    Calls Tryd.prog 56 #[.slice a l.length l.length, .int .i64 l.length, .slice (some ⟨vb, 0, none⟩) 1 1] w (InsPost w B (.slice a l.length l.length) l l.length x) := by
  obtain ⟨i0, hi, hz0, hz1, hz2⟩ := info_parts infoMis
  have hxc : Hid (∀ q u, x.cells[q]? = some u → w.cell? ((⟨vb, 0, none⟩ : Addr).add q) = some u) := Lib.hid fun q u hq => by rw [add_zero_at, hx.cell]; exact hq
  have hxo : Hid (∀ u ∈ x.cells, u.oneCell' = true) := Lib.hid fun u hu => mis_one [x] u (by simpa [flat] using hu)
  have HO := Lib.hid h
  have hd : (flat Mis.cells l).take (l.length * 2) = flat Mis.cells l := List.take_of_length_le (by rw [flat_length Mis.cells_length]; exact Nat.le_refl _)
  have hd2 : (flat Mis.cells l).drop (l.length * 2) = [] := List.drop_of_length_le (by rw [flat_length Mis.cells_length]; exact Nat.le_refl _)
  have HI : Hid (flat Mis.cells (insAt l l.length x) = flat Mis.cells l ++ x.cells) := Lib.hid (by rw [insAt_cells l l.length x (Nat.le_refl _), hd, hd2, List.append_nil])
  clear hd hd2
  unfold maxLen at hcm
  clear h hx
  go_enter Tryd.func56, Tryd.ntmps56
  go_wp2_with (at_builtin; refine wpList_append_own_at _ rfl _ _ 79 rfl B 85 i0 _ 2 16 Tryd.underlying79 hi hz0 hz1 hz2 rfl (by decide) _ _ _ rfl HO.out ⟨vb, 0, none⟩ 1 1 x.cells rfl rfl hxc.out hxo.out ?c3 ?c4 ?c5 ?_)
  case c3 => unfold maxLen; omega
  case c4 => omega
  case c5 => exact hB
  intro v' w2 hown2 hgrow _ hat
  have HP : Hid (InsPost w B (.slice a l.length l.length) l l.length x (.returned v') w2) := Lib.hid ⟨v', rfl, by rw [HI.out]; exact hown2, ⟨hgrow.os, hgrow.tape, hgrow.output, hgrow.size, fun k hk hn => hgrow.block k hk (fun e => hn e.symm)⟩, fun q hq => by
    rcases hat with e | e
    · exact .inl (by rw [← e]; exact hq)
    · rw [e] at hq; exact .inr (by rw [← Option.some.inj hq]; exact Nat.le_refl _)⟩
  clear hown2 hgrow hat
  go_wp2_with fail
  go_ret
  exact HP.out

set_option maxHeartbeats 3200000 in
set_option maxRecDepth 100000 in
theorem insert_end_ne {w : World} {B : Nat} {a : Option Addr} {c : Nat} {l : List Mis} (hne : ¬ c = l.length) (_hlc : l.length ≤ c) (h : w.ownsRow B 85 2 (.slice a l.length c) l.length (flat Mis.cells l)) (_hcm : c ≤ maxLen)  (hl : l.length ≤ 8) (hB : B ≤ w.heap.size) (x : Mis) (vb : Nat) (hx : Blk w vb 85 x.cells) :
    Calls Tryd.prog 56 #[.slice a l.length c, .int .i64 l.length, .slice (some ⟨vb, 0, none⟩) 1 1] w (InsPost w B (.slice a l.length c) l l.length x) := by
  obtain ⟨i0, hi, hz0, hz1, hz2⟩ := info_parts infoMis
  have hxc : Hid (∀ q u, x.cells[q]? = some u → w.cell? ((⟨vb, 0, none⟩ : Addr).add q) = some u) := Lib.hid fun q u hq => by rw [add_zero_at, hx.cell]; exact hq
  have hxo : Hid (∀ u ∈ x.cells, u.oneCell' = true) := Lib.hid fun u hu => mis_one [x] u (by simpa [flat] using hu)
  have HO := Lib.hid h
  have hd : (flat Mis.cells l).take (l.length * 2) = flat Mis.cells l := List.take_of_length_le (by rw [flat_length Mis.cells_length]; exact Nat.le_refl _)
  have hd2 : (flat Mis.cells l).drop (l.length * 2) = [] := List.drop_of_length_le (by rw [flat_length Mis.cells_length]; exact Nat.le_refl _)
  have HI : Hid (flat Mis.cells (insAt l l.length x) = flat Mis.cells l ++ x.cells) := Lib.hid (by rw [insAt_cells l l.length x (Nat.le_refl _), hd, hd2, List.append_nil])
  clear hd hd2
  clear h hx
  go_enter Tryd.func56, Tryd.ntmps56
  go_wp2_with (at_builtin; refine wpList_append_own_at _ rfl _ _ 79 rfl B 85 i0 _ 2 16 Tryd.underlying79 hi hz0 hz1 hz2 rfl (by decide) _ _ _ rfl HO.out ⟨vb, 0, none⟩ 1 1 x.cells rfl rfl hxc.out hxo.out ?c3 ?c4 ?c5 ?_)
  case c3 => unfold maxLen; omega
  case c4 => omega
  case c5 => exact hB
  intro v' w2 hown2 hgrow _ hat
  have HP : Hid (InsPost w B (.slice a l.length c) l l.length x (.returned v') w2) := Lib.hid ⟨v', rfl, by rw [HI.out]; exact hown2, ⟨hgrow.os, hgrow.tape, hgrow.output, hgrow.size, fun k hk hn => hgrow.block k hk (fun e => hn e.symm)⟩, fun q hq => by
    rcases hat with e | e
    · exact .inl (by rw [← e]; exact hq)
    · rw [e] at hq; exact .inr (by rw [← Option.some.inj hq]; exact Nat.le_refl _)⟩
  clear hown2 hgrow hat
  go_wp2_with fail
  go_ret
  exact HP.out

theorem insert_end {w : World} {B : Nat} {v : Value} {l : List Mis} (h : w.ownsRow B 85 2 v l.length (flat Mis.cells l)) (hl : l.length ≤ 8) (hB : B ≤ w.heap.size) (x : Mis) (vb : Nat) (hx : Blk w vb 85 x.cells) :
    Calls Tryd.prog 56 #[v, .int .i64 l.length, .slice (some ⟨vb, 0, none⟩) 1 1] w (InsPost w B v l l.length x) := by
  obtain ⟨a, c, g, rfl, -, -, hlc, hcm⟩ := MisAt.of_own h
  by_cases hc : c = l.length
  · subst hc; exact insert_end_eq h hcm hl hB x vb hx
  · exact insert_end_ne hc hlc h hcm hl hB x vb hx

theorem callFunc_overlaps {w : World} {g vb : Nat} {cur : List Value} (hg : Blk w g 85 cur) (hc : cur.length ≠ 0) (x : Mis) (hx : Blk w vb 85 x.cells) (hne : vb ≠ g) (o lb cb : Nat) :
    (callFunc 74 #[.slice (some ⟨vb, 0, none⟩) 1 1, .slice (some ⟨g, o, none⟩) lb cb]).run Tryd.prog w = .ok (.value (.bool false)) w := by
  rw [run_callFunc_extern Tryd.func74 (by kernel_rfl) (by kernel_rfl) (by kernel_rfl) (e := Extern.SlicesOverlaps.overlaps #[79, 79] #[4]) (by kernel_rfl),
    Lib.run_overlaps_apart w 79 4 85 Tryd.underlying79 2 sizeOf_mis ⟨vb, 0, none⟩ ⟨g, o, none⟩ 1 1 lb cb hne _ _ _ _ hx.shape hg.shape hc (hx.free 0) (hx.free _)]
  rfl

set_option maxHeartbeats 3200000 in
set_option maxRecDepth 100000 in
theorem insert_shift {w : World} {B g c n i : Nat} {l : List Mis} {cur : List Value} (hb : Blk w g 85 cur) (hBg : B ≤ g) (hln : l.length = n) (hcl : cur.length = c * 2) (htk : cur.take (n * 2) = flat Mis.cells l) (hin : i < n) (hn8 : n ≤ 8) (hnc : n + 1 ≤ c) (hcm : c ≤ maxLen)
    (x : Mis) (vb : Nat) (hx : Blk w vb 85 x.cells) (hne : vb ≠ g) :
    Calls Tryd.prog 56 #[.slice (some ⟨g, 0, none⟩) n c, .int .i64 i, .slice (some ⟨vb, 0, none⟩) 1 1] w (InsPost w B (.slice (some ⟨g, 0, none⟩) n c) l i x) := by
  have hcm' := hcm
  unfold maxLen at hcm
  obtain ⟨D, hD⟩ : ∃ D, D = (cur.drop (i * 2)).take ((n - i) * 2) := ⟨_, rfl⟩
  have hDl : D.length = (n - i) * 2 := by rw [hD, List.length_take, List.length_drop]; omega
  have hDf : D = (flat Mis.cells l).drop (i * 2) := by
    rw [hD, ← htk, List.drop_take]; congr 1; omega
  have hD1 : ∀ u ∈ D, u.oneCell' = true := fun u hu => mis_one l u (by rw [hDf] at hu; exact List.mem_of_mem_drop hu)
  have hx1 : ∀ u ∈ x.cells, u.oneCell' = true := fun u hu => mis_one [x] u (by simpa [flat] using hu)
  have hbD : Blk (w.drew.setCells g ((i + 1) * 2) D) g 85 (setRow cur ((i + 1) * 2) D) := Blk.sets _ _ _ _ hb.drew
  have hFD : Fr (fun q => q = g) w (w.drew.setCells g ((i + 1) * 2) D) := fr_sets _ _ _ _ (.inl rfl) (Fr.refl _ _).drew
  have hxD := hx.fr hFD (fun e => hne e)
  have hb2 : Blk ((w.drew.setCells g ((i + 1) * 2) D).setCells g (i * 2) x.cells) g 85 (setRow (setRow cur ((i + 1) * 2) D) (i * 2) x.cells) := Blk.sets _ _ _ _ hbD
  have hov := fun o lb cb => callFunc_overlaps hb (by omega) x hx hne o lb cb
  have hcp1 : ∀ ty dc sc, (Builtin.copy_ #[79, 79] ty #[.slice (some ⟨g, (i + 1) * 2, none⟩) (n + 1 - (i + 1)) dc, .slice (some ⟨g, i * 2, none⟩) (n + 1 - i) sc]).run Tryd.prog w.drew = .ok (goInt ((n - i : Nat))) (w.drew.setCells g ((i + 1) * 2) D) := fun ty dc sc =>
    copy_blk hb.drew hb.drew ty _ _ _ dc _ sc (n - i) D (by simp only [Nat.min_def]; split <;> omega) hD (by omega) (by omega) hD1
  have hcp2 : ∀ ty dc, (Builtin.copy_ #[79, 79] ty #[.slice (some ⟨g, i * 2, none⟩) (n + 1 - i) dc, .slice (some ⟨vb, 0, none⟩) 1 1]).run Tryd.prog (w.drew.setCells g ((i + 1) * 2) D) = .ok (goInt (1 : Nat)) ((w.drew.setCells g ((i + 1) * 2) D).setCells g (i * 2) x.cells) := fun ty dc =>
    copy_blk hbD hxD ty _ _ _ dc _ 1 1 x.cells (by simp only [Nat.min_def]; split <;> omega) rfl (by simp [Mis.cells]) (by rw [setRow_length]; omega) hx1
  have HP : Hid (InsPost w B (.slice (some ⟨g, 0, none⟩) n c) l i x (.returned (.slice (some ⟨g, 0, none⟩) (n + 1) c)) ((w.drew.setCells g ((i + 1) * 2) D).setCells g (i * 2) x.cells)) := Lib.hid (by
    refine ⟨_, rfl, ⟨by rw [flat_length Mis.cells_length, insAt_length l i x (by omega)], .inr ⟨g, c, _, by rw [hln], hBg, hb2, by omega, hcm', by rw [List.size_toArray, setRow_length, setRow_length]; exact hcl, ?_⟩⟩,
      (fr_sets (S := fun q => q = g) x.cells (i * 2) w _ (.inl rfl) hFD).mono (fun q _ e => by rw [e]; rfl), fun q hq => .inl hq⟩
    rw [List.toList_toArray, hln, insAt_cells l i x (by omega), ← hDf]
    have hx2 : x.cells.length = 2 := rfl
    have hl1 : (setRow cur ((i + 1) * 2) D).length = c * 2 := by rw [setRow_length]; exact hcl
    have e1 : setRow cur ((i + 1) * 2) D = cur.take ((i + 1) * 2) ++ (D ++ cur.drop ((i + 1) * 2 + D.length)) := setRow_spec _ _ _ (by omega)
    have e2 : (setRow cur ((i + 1) * 2) D).take (i * 2) = (flat Mis.cells l).take (i * 2) := by
      rw [e1, List.take_append_of_le_length (by rw [List.length_take]; omega), List.take_take, Nat.min_eq_left (by omega), ← htk, List.take_take, Nat.min_eq_left (by omega)]
    have e3 : (setRow cur ((i + 1) * 2) D).drop (i * 2 + x.cells.length) = D ++ cur.drop ((i + 1) * 2 + D.length) := by
      rw [e1, hx2, show i * 2 + 2 = (i + 1) * 2 by omega, List.drop_append_of_le_length (by rw [List.length_take]; omega), List.drop_of_length_le (by rw [List.length_take]; omega), List.nil_append]
    rw [setRow_spec _ _ _ (by rw [hl1, hx2]; omega), e2, e3, ← List.append_assoc, ← List.append_assoc,
      List.take_append_of_le_length (by rw [List.length_append, List.length_append, List.length_take, flat_length Mis.cells_length, hx2, hDl]; omega),
      List.take_of_length_le (by rw [List.length_append, List.length_append, List.length_take, flat_length Mis.cells_length, hx2, hDl]; omega), List.append_assoc])
  have hz2 : ¬ ((i : Int) = (n : Int)) := by omega
  have hz3 : ¬ (c : Int) < (n : Int) + 1 := by omega
  have hw1 : IntKind.i64.wrap ((i : Int) + 1) = (i : Int) + 1 := by rw [IntKind.wrap_i64]; omega
  have hb1 : (0 : Int) ≤ (i : Int) + 1 := by omega
  have hin' : i ≤ n := by omega
  have htn : ((i : Int) + 1).toNat = i + 1 := by omega
  have htn2 : ((n : Int) + 1).toNat = n + 1 := by omega
  have hq2 : ¬ (c = i + 1) := by omega
  have hq3 : (i : Int) ≤ (n : Int) + 1 := by omega
  have hq4 : ¬ (c = i) := by omega
  have hq5 : (0 : Int) ≤ (n : Int) + 1 := by omega
  have hq6 : (n : Int) + 1 ≤ (c : Int) := by omega
  have hq7 : (i : Int) + 1 ≤ (n : Int) + 1 := by omega
  have HC1 := Lib.hid hcp1
  have HC2 := Lib.hid hcp2
  clear hb hx hbD hFD hxD hb2 hcp1 hcp2 hD hDl hDf hD1 hx1 htk hcl hln
  go_enter Tryd.func56, Tryd.ntmps56
  go_wp2_with fail
  go_region_law (refine step_copy_eq rfl _ _ 79 79 rfl (.slice (some ⟨g, (i + 1) * 2, none⟩) (n + 1 - (i + 1)) (c - (i + 1))) (.slice (some ⟨g, i * 2, none⟩) (n + 1 - i) (c - i)) (by simp [Act.eval, Act.put]) (by simp [Act.eval, Act.put]) (HC1.out _ (c - (i + 1)) (c - i)) ?_)
  go_wp2_with (with_reducible refine wpList_copy_eq _ rfl _ _ 79 79 rfl _ _ rfl rfl (HC2.out _ _) ?_)
  go_ret
  exact HP.out
end Go.Proofs.YtjmlficbnljiaaaDoor
