/- The machine's table of misses: Delete of one, in place; Drop. -/
import Derived.Test.YtjmlficbnljiaaaDoorMisA
import Derived.Deep.RegionLaw
import Derived.IntWalk
namespace Go.Proofs.YtjmlficbnljiaaaDoor
open Go.RowKit

theorem Blk.sets {b : Nat} {t : TypeId} : ∀ (vs : List Value) (l : List Value) (o : Nat) (w : World), Blk w b t l → Blk (w.setCells b o vs) b t (setRow l o vs)
  | [], l, o, w, h => h
  | v :: vs, l, o, w, h => by
    rw [World.setCells, setRow]
    exact Blk.sets vs _ _ _ (h.set o v)
theorem fr_sets {S : Nat → Prop} {b : Nat} : ∀ (vs : List Value) (o : Nat) (a w : World), (S b ∨ a.heap.size ≤ b) → Fr S a w → Fr S a (w.setCells b o vs)
  | [], o, a, w, _, h => h
  | v :: vs, o, a, w, hb, h => by
    rw [World.setCells]
    exact fr_sets vs _ _ _ hb (fr_set hb h)

theorem setRow_length : ∀ (vs l : List Value) (o : Nat), (setRow l o vs).length = l.length
  | [], l, o => rfl
  | v :: vs, l, o => by rw [setRow, setRow_length vs]; simp

section
variable {P : Program}
/-- 'clear' where its run is known. -/
theorem wp_clear_run (w : World) {o : Oper} {a : Act} {K : Act → World → Prop} {Q : Exit → Act → World → Prop} (s : Operand) (t : TypeId)
    (ho : o.op = .call { callee := .builtin .clear, args := #[s], argTypes := #[t] }) (v : Value) (hs : a.eval s = v) {v' : Value} {w' : World}
    (hr : (Builtin.clear_ #[t] o.type #[v]).run P w = .ok v' w') (h : K (a.put o.dst v') w') : o.wp P a w K Q := by
  unfold Oper.wp execOp
  simp only [ho, resolve, invoke, builtin, Sem.run_bind, Sem.run_pure, Result.andThen_ok, List.map_toArray, List.map_cons, List.map_nil, hs, hr]
  exact h
theorem wpList_clear_run (w : World) {ops : Array Oper} {rest : List Oper} {o : Oper} {a : Act} {Q : Exit → Act → World → Prop} (hgd : o.guard = none) (s : Operand) (t : TypeId)
    (ho : o.op = .call { callee := .builtin .clear, args := #[s], argTypes := #[t] }) (v : Value) (hs : a.eval s = v) {v' : Value} {w' : World}
    (hr : (Builtin.clear_ #[t] o.type #[v]).run P w = .ok v' w') (h : wpList P ops Q rest (a.put o.dst v') w') : wpList P ops Q (o :: rest) a w :=
  wpList_plain hgd fun _ hK => wp_clear_run w s t ho v hs hr (hK _ _ h)
theorem run_clear_one (w : World) (t e ty : TypeId) (z : Value) (zs : List Value) (ht : P.underlying t = some (.slice e)) (hv : ∀ w, (zeroValue e).run P w = .ok z w) (hz : (Builtin.zeroCells z.cells 1).toList = zs) (h1 : ∀ u ∈ zs, u.oneCell' = true) (b o c : Nat)
    (hc : ∀ j, j < zs.length → (w.cell? ⟨b, o + j, none⟩).isSome = true) (hf : ∀ j, j < zs.length → w.frozen? ⟨b, o + j, none⟩ = false) :
    (Builtin.clear_ #[t] ty #[.slice (some ⟨b, o, none⟩) 1 c]).run P w = .ok (.tuple #[]) (w.setCells b o zs) := by
  have hst := run_storeCells_cells (P := P) b o zs 0 w (by simpa using hc) (by simpa using hf) h1
  simp only [Nat.add_zero] at hst
  simp [Builtin.clear_, run_underlying ht, hv, hz, hst]
end
theorem zeros_mis : (Builtin.zeroCells Mis.zero.val.cells 1).toList = [.int .i64 0, .int .i64 0] := by
  have : Mis.zero.val.cells = #[.int .i64 0, .int .i64 0] := by simp [Mis.val, Mis.zero, Value.cells]
  rw [this]
  simp [Builtin.zeroCells]
  rfl
theorem zero_mis (w : World) : (zeroValue 85).run Tryd.prog w = .ok Mis.zero.val w := by kernel_rfl

set_option maxHeartbeats 1600000 in
set_option maxRecDepth 100000 in
theorem delete_mis {w : World} {g cap i k : Nat} {cur : List Value} (hb : Blk w g 85 cur) (hc : cur.length = cap * 2) (hn : i + 1 + k ≤ cap) (hn8 : i + 1 + k ≤ 8) (hcm : cap ≤ maxLen) (h1 : ∀ u ∈ cur.take ((i + 1 + k) * 2), u.oneCell' = true) :
    Calls Tryd.prog 58 #[.slice (some ⟨g, 0, none⟩) (i + 1 + k) cap, .int .i64 i, .int .i64 ((i : Int) + 1)] w fun e w' => e = .returned (.slice (some ⟨g, 0, none⟩) (i + k) cap) ∧ Fr (fun q => q = g) w w' ∧ ∃ cur', Blk w' g 85 cur' ∧ cur'.length = cap * 2 ∧ cur'.take ((i + k) * 2) = cur.take (i * 2) ++ (cur.drop ((i + 1) * 2)).take (k * 2) := by
  obtain ⟨i0, hi0, hz0, hz1, hz2⟩ := info_parts infoMis
  unfold maxLen at hcm
  obtain ⟨mv, hmv⟩ : ∃ mv, mv = (cur.drop ((i + 1) * 2)).take (k * 2) := ⟨_, rfl⟩
  have hml : mv.length = k * 2 := by rw [hmv, List.length_take, List.length_drop]; omega
  obtain ⟨A, hA, hnews⟩ : ∃ A : Addr, (if cap = i + 1 then some (⟨g, 0, none⟩ : Addr) else some ⟨g, (i + 1) * 2, none⟩) = some A ∧ Hid (∀ j u, mv[j]? = some u → w.drew.cell? (A.add j) = some u) := by
    by_cases h : cap = i + 1
    · refine ⟨⟨g, 0, none⟩, by simp [h], fun j u hu => ?_⟩
      have h0 : mv.length = 0 := by omega
      rw [List.length_eq_zero_iff.1 h0] at hu
      simp at hu
    · refine ⟨⟨g, (i + 1) * 2, none⟩, by simp [h], fun j u hu => ?_⟩
      have hj : j < k * 2 := by
        have := (List.getElem?_eq_some_iff.1 hu).1
        omega
      rw [hmv, List.getElem?_take, if_pos hj, List.getElem?_drop] at hu
      rw [show (⟨g, (i + 1) * 2, none⟩ : Addr).add j = ⟨g, (i + 1) * 2 + j, none⟩ by unfold Addr.add; split <;> simp_all]
      exact (hb.cell _).trans hu
  have s1 : Hid (mv.length = k * 2) := Lib.hid hml
  have s2 : Hid (∀ u ∈ mv, u.oneCell' = true) := by
    intro u hu
    refine h1 u ?_
    rw [hmv] at hu
    obtain ⟨j, hj, rfl⟩ := List.getElem_of_mem hu
    simp only [List.getElem_take, List.getElem_drop]
    rw [List.length_take, List.length_drop] at hj
    exact List.mem_of_getElem? (i := (i + 1) * 2 + j) (by rw [List.getElem?_take, if_pos (by omega), List.getElem?_eq_getElem])
  have s3 : Hid (∀ j, j < mv.length → (w.drew.cell? ⟨g, 0 + i * 2 + j, none⟩).isSome = true ∧ w.drew.frozen? ⟨g, 0 + i * 2 + j, none⟩ = false) := by
    intro j hj
    refine ⟨?_, hb.free _⟩
    show (w.cell? _).isSome = true
    rw [hb.cell, List.getElem?_eq_getElem (by omega)]; rfl
  have hic : i ≤ cap := by omega
  have hwr : IntKind.i64.wrap ((i : Int) + 1) = (i : Int) + 1 := by rw [IntKind.wrap_i64]; omega
  have hp0 : (0 : Int) ≤ (i : Int) + 1 := by omega
  have hp1 : (i : Int) + 1 ≤ (i : Int) + 1 + (k : Int) := by omega
  have hp2 : ((i : Int) + 1).toNat = i + 1 := by omega
  have hne : ¬ (i : Int) = (i : Int) + 1 := by omega
  have HB := Lib.hid hb
  have HMV := Lib.hid hmv
  clear hb h1 hmv
  go_enter Tryd.func58, Tryd.ntmps58
  go_wp2_with fail
  go_region_law (refine step_append_room rfl (.tmp 22) (.tmp 25) 79 rfl 85 i0 2 Tryd.underlying79 hi0 hz1 g 0 i cap (by simp [Act.eval, Act.put]) A k (cap - (i + 1)) mv (by simp [Act.eval, Act.put]) s1.out hnews.out s2.out (by omega) s3.out ?_)
  have hq1 : ¬ cap = i + k := by omega
  have hq2 : ((i : Int) + (k : Int)).toNat = i + k := by omega
  have hq3 : ((i : Int) + 1 + (k : Int)).toNat = i + 1 + k := by omega
  have hq4 : (0 : Int) ≤ (i : Int) + (k : Int) := by omega
  have hq5 : (i : Int) + (k : Int) ≤ (i : Int) + 1 + (k : Int) := by omega
  have hq6 : (i : Int) + 1 + (k : Int) ≤ (cap : Int) := by omega
  have hq7 : i + 1 + k - (i + k) = 1 := by omega
  have hclr : ∀ (W : World) (l : List Value), Blk W g 85 l → l.length = cap * 2 → ∀ ty c, (Builtin.clear_ #[79] ty #[.slice (some ⟨g, (i + k) * 2, none⟩) 1 c]).run Tryd.prog W = .ok (.tuple #[]) (W.setCells g ((i + k) * 2) [.int .i64 0, .int .i64 0]) := by
    intro W l h hl ty c
    refine run_clear_one W _ _ ty Mis.zero.val [.int .i64 0, .int .i64 0] Tryd.underlying79 zero_mis zeros_mis (by intro u hu; simp at hu; rw [hu]; rfl) g _ c (fun j hj => ?_) (fun j _ => h.free _)
    simp only [List.length_cons, List.length_nil] at hj
    rw [h.cell, List.getElem?_eq_getElem (by omega)]; rfl
  have HB1 := Lib.hid (Blk.sets mv cur (i * 2) w.drew HB.out.drew)
  have hcl2 := fun ty c => hclr _ _ HB1.out (by rw [setRow_length]; exact hc) ty c
  clear hclr
  go_wp2_with fail
  go_ret
  have hl1 : (setRow cur (i * 2) mv).length = cap * 2 := by rw [setRow_length]; exact hc
  refine ⟨rfl, fr_sets _ _ _ _ (.inl rfl) (fr_sets _ _ _ _ (.inl rfl) (Fr.refl _ _).drew), _, Blk.sets _ _ _ _ HB1.out, by rw [setRow_length]; exact hl1, ?_⟩
  rw [setRow_spec _ _ _ (by simp only [List.length_cons, List.length_nil]; omega), List.take_append_of_le_length (by rw [List.length_take]; omega), List.take_take, Nat.min_self,
    setRow_spec _ _ _ (by omega), ← List.append_assoc, List.take_append_of_le_length (by rw [List.length_append, List.length_take]; omega), List.take_of_length_le (by rw [List.length_append, List.length_take]; omega), HMV.out]

/-- Where a row is cut short by one. -/
theorem erase_cells (l : List Mis) (i : Nat) (hi : i < l.length) : flat Mis.cells (l.eraseIdx i) = (flat Mis.cells l).take (i * 2) ++ (flat Mis.cells l).drop ((i + 1) * 2) := by
  rw [List.eraseIdx_eq_take_drop_succ, flat_append, flat_take Mis.cells_length l i (by omega), flat_drop Mis.cells_length l (i + 1) (by omega)]

/-- Drop of a line. -/
def mDrop (l : List Mis) (line : Int) : List Mis := if idxOf (isMis line) l < 0 then l else l.eraseIdx (idxOf (isMis line) l).toNat

variable {w : World} {T B : Nat} {most : Int} {v : Value} {l : List Mis}

set_option maxHeartbeats 1600000 in
set_option maxRecDepth 10000 in
theorem MDrop_any (h : TabAt w T B 114 85 most v l) (hl : l.length ≤ 8) (line : Int) :
    Calls Tryd.prog 33 #[.pointer (some ⟨T, 0, none⟩), .int .i64 line] w fun r w' => r = .returned (.bool (mGet l line).isSome) ∧ ∃ v', TabStep w w' T B 114 85 most v v' (mDrop l line) := by
  have HK := Lib.hid (known_any h hl line)
  have hfi := find_idxOf (isMis line) l
  have HT := Lib.hid h
  unfold mGet mDrop
  by_cases hn : idxOf (isMis line) l < 0
  · rw [if_pos hn] at hfi
    rw [hfi, if_pos hn]
    clear hfi h
    go_enter Tryd.func33, Tryd.ntmps33
    go_wp2_with fail
    refine HK.out.mono ?_; rintro r w2 ⟨rfl, hB2⟩
    go_wp2_with fail
    go_ret
    exact ⟨rfl, v, .same HT.out hB2⟩
  · rw [if_neg hn] at hfi
    obtain ⟨e, he, -⟩ := idxOf_pos (p := isMis line) (l := l) (by omega)
    rw [he] at hfi
    rw [hfi, if_neg hn]
    have hjl := idxOf_lt (isMis line) l
    obtain ⟨j, hj⟩ := Int.eq_ofNat_of_zero_le (show 0 ≤ idxOf (isMis line) l by omega)
    rw [hj] at HK he hn hjl ⊢
    rw [Int.toNat_natCast] at he ⊢
    have hjn : j < l.length := by simpa using hjl
    obtain ⟨k, hk⟩ : ∃ k, l.length = j + 1 + k := ⟨l.length - (j + 1), by omega⟩
    rcases h.row.2 with ⟨-, h0⟩ | ⟨g, cap, cur, rfl, hBg, hg, hnc, hcm, hcs, htk⟩
    · omega
    have hgT : g ≠ T := fun e => h.ne (by rw [e]; rfl)
    have hbk : Blk w g 85 cur.toList := by simpa [Blk] using hg
    have hcl : cur.toList.length = cap * 2 := by rw [Array.length_toList]; exact hcs
    have HBK := Lib.hid hbk
    have HTK := Lib.hid htk
    have HLK := Lib.hid hk
    have HGE := Lib.hid h.ge
    have HHL := Lib.hid h.t
    rw [hk] at hnc
    have HDel : ∀ W, Blk W g 85 cur.toList → Calls Tryd.prog 58 #[.slice (some ⟨g, 0, none⟩) (j + 1 + k) cap, .int .i64 j, .int .i64 ((j : Int) + 1)] W _ := fun W hW =>
      delete_mis hW hcl hnc (by omega) hcm (by rw [← HLK.out, HTK.out]; exact mis_one l)
    have HD := Lib.hid HDel
    clear HDel hfi he hg hbk htk h hjl hn
    rw [hk]
    clear hk
    go_enter Tryd.func33, Tryd.ntmps33
    go_wp2_with fail
    refine HK.out.mono ?_; rintro r w2 ⟨rfl, hB2⟩
    have HT2 := Lib.hid (HT.out.below hB2)
    have HB2 := Lib.hid hB2
    have c1 := HT2.out.c0.2
    rw [HLK.out] at c1
    have hz2 := hB2.size
    have hb2 := HBK.out.below hB2 HBK.out.lt
    have HBK2 := Lib.hid hb2
    clear hB2 hb2
    go_wp2_with fail
    refine (HD.out _ HBK2.out).mono ?_; rintro r w3 ⟨rfl, hF, cur', hb', hl', ht'⟩
    have hT3 := HT2.out.t.fr hF (fun e => hgT e.symm)
    have hfr := hT3.free 1
    have hc3 := hT3.cell 1
    have HT3 := Lib.hid hT3
    have HF := Lib.hid hF
    have HB' := Lib.hid hb'
    have HL' := Lib.hid hl'
    have HTT := Lib.hid ht'
    clear hT3 hF hb' hl' ht' c1
    go_wp2_with fail
    go_ret
    refine ⟨rfl, .slice (some ⟨g, 0, none⟩) (j + k) cap, ⟨?_, ?_, ?_, HGE.out⟩, ?_, fun q hq => .inl hq⟩
    · simpa using HT3.out.set 1 (.slice (some ⟨g, 0, none⟩) (j + k) cap)
    · have e1 : (l.eraseIdx j).length = j + k := by rw [List.length_eraseIdx, if_pos hjn, HLK.out]; omega
      rw [e1, erase_cells l j hjn]
      have hlf : (flat Mis.cells l).length = (j + 1 + k) * 2 := by rw [flat_length Mis.cells_length, HLK.out]
      have hlk := HLK.out
      refine ⟨by rw [List.length_append, List.length_take, List.length_drop, hlf]; omega, .inr ⟨g, cap, cur'.toArray, rfl, hBg, (HB'.out.other (a := ⟨T, 1, none⟩) hgT _), by omega, hcm, by simpa using HL'.out, ?_⟩⟩
      show List.take ((j + k) * 2) cur'.toArray.toList = _
      rw [List.toList_toArray, HTT.out]
      have htk := HTK.out
      rw [hlk] at htk
      rw [← htk]
      congr 1
      · rw [List.take_take, Nat.min_eq_left (by omega)]
      · rw [List.drop_take]; congr 1; omega
    · simp only [Value.ownBlock, ne_eq, Option.some.injEq]; exact hgT
    · exact fr_set (.inl (.inl rfl)) ((Fr.of_below HB2.out).trans HF.out (fun _ _ h => h) (fun q _ e => .inr (by rw [e]; rfl)))
end Go.Proofs.YtjmlficbnljiaaaDoor
