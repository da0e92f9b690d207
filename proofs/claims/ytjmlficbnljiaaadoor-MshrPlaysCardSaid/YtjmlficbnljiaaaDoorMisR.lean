/- The document's table of misses: Get, Drop. -/
import Derived.Test.YtjmlficbnljiaaaDoorMisH
import Derived.Test.YtjmlficbnljiaaaDoorHeld
import Derived.Deep.CutRange
import Derived.Deep.CutBlock
import Derived.BigQuiet
namespace Go.Proofs.YtjmlficbnljiaaaDoor
open Go.RowKit

section
variable {P : Program} (w : World)
/-- append onto a row of the call's own, as one step of a region that draws. -/
theorem step_append_at {ops : Array Oper} {o : Oper} {a : Act} {K : Act → World → Prop} {Q : Exit → Act → World → Prop} {E : Prop} (hgd : o.guard = none) (s x : Operand) (t : TypeId)
    (ho : o.op = .call { callee := .builtin .append, args := #[s, x], argTypes := #[t, t] })
    (base : Nat) (e : TypeId) (i : TypeInfo) (z : Value) (size bytes : Nat) (ht : P.underlying t = some (.slice e)) (hi : P.info? e = some i) (hz : i.zero = some z)
    (hsize : i.size = size) (hby : i.bytes = bytes) (hzs : z.cells.size = size) (hsz : 0 < size)
    (v : Value) (n : Nat) (xs : List Value) (hs : a.eval s = v) (hown : w.ownsRow base e size v n xs)
    (ad : Addr) (m c : Nat) (news : List Value) (hx : a.eval x = .slice (some ad) m c) (hl : news.length = m * size) (hnews : ∀ j u, news[j]? = some u → w.cell? (ad.add j) = some u) (h1 : ∀ u ∈ news, u.oneCell' = true)
    (h63 : n + m ≤ maxLen) (hbytes : (n + m) * bytes ≤ 140737488355328) (hbase : base ≤ w.heap.size)
    (h : ∀ v' w', w'.ownsRow base e size v' (n + m) (xs ++ news) → w.grownBy w' v.ownBlock → K (a.put o.dst v') w') :
    if Region.wanted o (yielded ops a.tmps) = true then Oper.wp P o a w K Q else E := by
  have hw : Region.wanted o (yielded ops a.tmps) = true := by simp [Region.wanted, hgd]
  rw [if_pos hw]
  exact wp_append_own w s x t ho base e i z size bytes ht hi hz hsize hby hzs hsz v n xs hs hown ad m c news hx hl hnews h1 h63 hbytes hbase fun v' w' h2 h3 _ => h v' w' h2 h3
end

theorem own_shape {w : World} {B : Nat} {e : TypeId} {s n : Nat} {v : Value} {xs : List Value} (h : w.ownsRow B e s v n xs) : ∃ a c, v = .slice a n c := by
  rcases h.2 with ⟨hv, hn⟩ | ⟨g, cap, cur, hv, -⟩
  · exact ⟨none, 0, by rw [hv, hn]⟩
  · exact ⟨_, _, hv⟩
theorem ownsRow_base {w : World} {B B' : Nat} {e : TypeId} {s n : Nat} {v : Value} {xs : List Value} (h : w.ownsRow B' e s v n xs) (hB : B ≤ B') : w.ownsRow B e s v n xs := by
  refine ⟨h.1, ?_⟩
  rcases h.2 with h2 | ⟨g, cap, cur, h1, h2, h3⟩
  · exact .inl h2
  · exact .inr ⟨g, cap, cur, h1, Nat.le_trans hB h2, h3⟩
theorem find_first {p : Mis → Bool} {l : List Mis} {k : Nat} {e : Mis} (h : l[k]? = some e) (hp : p e = true) (hn : ∀ j, j < k → ∀ b, l[j]? = some b → p b = false) : l.find? p = some e := by
  rw [find_idxOf, idxOf_found h hp hn, if_neg (by omega), Int.toNat_natCast, h]
theorem find_no {p : Mis → Bool} {l : List Mis} (hn : ∀ j, j < l.length → ∀ b, l[j]? = some b → p b = false) : l.find? p = none := by
  rw [find_idxOf, idxOf_none hn, if_pos (by omega)]

variable {w : World} {T B : Nat} {most : Int} {v : Value} {l : List Mis}

set_option maxHeartbeats 1600000 in
set_option maxRecDepth 10000 in
theorem RGet_any' (h : TabAt w T B 82 84 most v l) (hl : l.length ≤ 8) (line : Int) :
    Calls Tryd.prog 32 #[.pointer (some ⟨T, 0, none⟩), .int .i64 line] w fun r w' => r = .returned (.tuple #[.int .i64 ((mGet l line).getD Mis.zero).kind, .bool (mGet l line).isSome]) ∧ Below w.heap.size w w' := by
  obtain ⟨a, c, g, rfl, hm, -⟩ := MisAt.of_own h.row
  obtain ⟨c0, c1⟩ := h.c0
  have HM := Lib.hid hm
  clear h hm
  go_enter Tryd.func32, Tryd.ntmps32
  go_wp2_with fail
  go_loopw [13] (fun i wr => ∃ k : Nat, k ≤ l.length ∧ i = .int .i64 k ∧ Below w.heap.size w wr ∧ ∀ j, j < k → ∀ e, l[j]? = some e → isMis line e = false) (fun i _ => l.length - (intOf i).toNat)
  case atStart => exact ⟨0, Nat.zero_le _, rfl, Below.refl _ _, fun j hj => by omega⟩
  case round =>
    obtain ⟨k, hk, rfl, hB, hno⟩ := hrel
    have HN := Lib.hid hno
    have HB := Lib.hid hB
    clear hno hB c0 c1
    by_cases hlt : k < l.length
    · obtain ⟨e, he⟩ : ∃ e, l[k]? = some e := ⟨_, List.getElem?_eq_getElem hlt⟩
      have HE := Lib.hid he; clear he
      obtain rfl := HM.out.addr (by rintro rfl; simp at hlt)
      obtain ⟨d0, d1⟩ := (HM.out.below HB.out (Nat.le_refl _)).two HE.out
      by_cases hp : e.line = line
      · have hp2 : (e.line == line) = true := by simpa using hp
        have HF := Lib.hid (find_first (p := isMis line) HE.out (by simpa [isMis] using hp) HN.out)
        clear hp
        go_wp2_with fail
        go_ret2
        refine ⟨?_, HB.out.alloc HB.out.size _⟩
        unfold mGet
        rw [HF.out]
        rfl
      · have hp2 : (e.line == line) = false := by simpa using hp
        have HP := Lib.hid hp2
        clear hp
        go_wp2_with fail
        go_roundw
        case rel =>
          refine ⟨k + 1, by omega, by go_num, HB.out.alloc HB.out.size _, ?_⟩
          intro j hj e' he'
          rcases Nat.lt_succ_iff_lt_or_eq.1 hj with h | h
          · exact HN.out j h e' he'
          · subst h
            have := HE.out
            rw [this] at he'
            cases he'
            exact HP.out
        case measure => simp [intOf]; omega
    · obtain rfl : k = l.length := by omega
      go_wp2_with fail
      go_ret2
      refine ⟨?_, HB.out⟩
      unfold mGet
      rw [find_no HN.out]
      rfl

set_option maxHeartbeats 3200000 in
set_option maxRecDepth 10000 in
theorem RDrop_any' (h : TabAt w T B 82 84 most v l) (hl : l.length ≤ 8) (line : Int) :
    Calls Tryd.prog 34 #[.pointer (some ⟨T, 0, none⟩), .int .i64 line] w fun r w' => r = .returned (.bool (mGet l line).isSome) ∧ ∃ v', TabStep w w' T B 82 84 most v v' (mDrop l line) := by
  obtain ⟨i0, hi, hz0, hz1, hz2⟩ := info_parts infoRMis
  obtain ⟨a, c, g, rfl, hm, hown, hlc, hcm⟩ := MisAt.of_own h.row
  obtain ⟨c0, c1⟩ := h.c0
  have HM := Lib.hid hm
  have HT := Lib.hid h
  have HOW := Lib.hid hown
  unfold maxLen at hcm
  clear h hm hown
  go_enter Tryd.func34, Tryd.ntmps34
  go_wp2_with fail
  go_loopw [12] (fun i wr => ∃ k : Nat, k ≤ l.length ∧ i = .int .i64 k ∧ Below w.heap.size w wr ∧ ∀ j, j < k → ∀ e, l[j]? = some e → isMis line e = false) (fun i _ => l.length - (intOf i).toNat)
  case atStart => exact ⟨0, Nat.zero_le _, rfl, Below.refl _ _, fun j hj => by omega⟩
  case round =>
    obtain ⟨j, hk, rfl, hB, hno⟩ := hrel
    have HN := Lib.hid hno
    have HB := Lib.hid hB
    clear hno hB c0 c1
    by_cases hlt : j < l.length
    · obtain ⟨e, he⟩ : ∃ e, l[j]? = some e := ⟨_, List.getElem?_eq_getElem hlt⟩
      have HE := Lib.hid he; clear he
      obtain rfl := HM.out.addr (by rintro rfl; simp at hlt)
      obtain ⟨d0, d1⟩ := (HM.out.below HB.out (Nat.le_refl _)).two HE.out
      by_cases hp : e.line = line
      · have hp2 : (e.line == line) = true := by simpa using hp
        have HF := Lib.hid (find_first (p := isMis line) HE.out (by simpa [isMis] using hp) HN.out)
        have HIX := Lib.hid (idxOf_found (p := isMis line) HE.out (by simpa [isMis] using hp) HN.out)
        clear hp
        obtain ⟨k, hk2⟩ : ∃ k, l.length = j + 1 + k := ⟨l.length - (j + 1), by omega⟩
        have HK := Lib.hid hk2
        go_upto_region 5 with (fail)
        have hBq := HB.out.alloc HB.out.size (.cells #[.int .i64 e.line, .int .i64 e.kind] 84)
        generalize wr.alloc (.cells #[.int .i64 e.line, .int .i64 e.kind] 84) = wq at *
        have HTq := Lib.hid (HT.out.below hBq)
        have HBq := Lib.hid hBq
        have k1 := HTq.out.c0.2
        have hTq := HTq.out.t.lt
        have hgq := (HTq.out.row.lt g rfl).2
        have hgT : g ≠ T := fun e => HTq.out.ne (by rw [e]; rfl)
        have hfl := flat_length Mis.cells_length l
        have HE0 := Lib.hid (own_empty (w := wq.drew.alloc (.cells #[] 84)) (B := wq.heap.size) (Blk.new wq.drew #[] 84) (Nat.le_refl _))
        have HS1 := Lib.hid (show ∀ q u, ((flat Mis.cells l).take (j * 2))[q]? = some u → (wq.drew.alloc (.cells #[] 84)).cell? ((⟨g, 0, none⟩ : Addr).add q) = some u from fun q u hq => by
          rw [List.getElem?_take] at hq
          split at hq
          · exact (HTq.out.row.alloc (.cells #[] 84)).cells (g := g) rfl q u hq
          · cases hq)
        have HL1 := Lib.hid (show ((flat Mis.cells l).take (j * 2)).length = j * 2 by rw [List.length_take, hfl]; omega)
        have H11 := Lib.hid (show ∀ u ∈ (flat Mis.cells l).take (j * 2), u.oneCell' = true from fun u hu => mis_one l u (List.mem_of_mem_take hu))
        have HL2 := Lib.hid (show ((flat Mis.cells l).drop ((j + 1) * 2)).length = k * 2 by rw [List.length_drop, hfl]; omega)
        have H12 := Lib.hid (show ∀ u ∈ (flat Mis.cells l).drop ((j + 1) * 2), u.oneCell' = true from fun u hu => mis_one l u (List.mem_of_mem_drop hu))
        obtain ⟨A, hA, hnews⟩ : ∃ A : Addr, (if c = j + 1 then some (⟨g, 0, none⟩ : Addr) else some ⟨g, (j + 1) * 2, none⟩) = some A ∧ Hid (∀ (W : World), W.ownsRow B 84 2 (.slice (some ⟨g, 0, none⟩) l.length c) l.length (flat Mis.cells l) → ∀ q u, ((flat Mis.cells l).drop ((j + 1) * 2))[q]? = some u → W.cell? (A.add q) = some u) := by
          by_cases h : c = j + 1
          · refine ⟨⟨g, 0, none⟩, by simp [h], fun W hW q u hu => ?_⟩
            have h0 := HL2.out
            rw [show k = 0 by omega, Nat.zero_mul] at h0
            rw [List.length_eq_zero_iff.1 h0] at hu
            simp at hu
          · refine ⟨⟨g, (j + 1) * 2, none⟩, by simp [h], fun W hW q u hu => ?_⟩
            rw [List.getElem?_drop] at hu
            rw [at_add]
            have := hW.cells (g := g) rfl _ _ hu
            rw [add_zero_at] at this
            exact this
        have hjc : j ≤ c := by omega
        have hwr : IntKind.i64.wrap ((j : Int) + 1) = (j : Int) + 1 := by rw [IntKind.wrap_i64]; omega
        have hp0 : (0 : Int) ≤ (j : Int) + 1 := by omega
        have hp1 : (j : Int) + 1 ≤ (j : Int) + 1 + (k : Int) := by omega
        have hp3 : ((j : Int) + 1).toNat = j + 1 := by omega
        clear hfl d0 d1 hp2 hBq
        rw [hk2] at k1 ⊢
        refine wp_region_G (S := fun W => W.cell? ⟨T, 1, none⟩ = some (.slice (some ⟨g, 0, none⟩) (j + 1 + k) c)) (f := 19) (by kernel_rfl) k1 (fun hHeld => ?_)
        refine wpAnyG_take (i := 0) (oi := ⟨some 21, _, _, _, _, _⟩) (v := ?_) rfl (by kernel_rfl) (by kernel_rfl) (by kernel_rfl) (by kernel_rfl) (fun _ _ _ h => h) (Or.inl ⟨by kernel_rfl, ?_⟩) (by assumption) ?_
        rotate_left
        · ((intro W hSw; (try dsimp only at hSw); go_simp) <;> with_reducible rfl)
        try simp only [Act.put, List.setIfInBounds_toArray, List.set_cons_zero, List.set_cons_succ]
        refine wpAnyG_take (i := 2) (oi := ⟨some 23, _, _, _, _, _⟩) (v := ?_) rfl (by kernel_rfl) (by kernel_rfl) (by kernel_rfl) (by kernel_rfl) (fun _ _ _ h => h) (Or.inl ⟨by kernel_rfl, ?_⟩) (by assumption) ?_
        rotate_left
        · ((intro W hSw; (try dsimp only at hSw); go_simp) <;> with_reducible rfl)
        try simp only [Act.put, List.setIfInBounds_toArray, List.set_cons_zero, List.set_cons_succ]
        refine wpAnyG_take (i := 3) (oi := ⟨some 24, _, _, _, _, _⟩) (v := ?_) rfl (by kernel_rfl) (by kernel_rfl) (by kernel_rfl) (by kernel_rfl) (fun _ _ _ h => h) (Or.inl ⟨by kernel_rfl, ?_⟩) (by assumption) ?_
        rotate_left
        · ((intro W hSw; (try dsimp only at hSw); go_simp) <;> with_reducible rfl)
        try simp only [Act.put, List.setIfInBounds_toArray, List.set_cons_zero, List.set_cons_succ]
        refine wpAnyG_take (i := 4) (oi := ⟨some 25, _, _, _, _, _⟩) (v := ?_) rfl (by kernel_rfl) (by kernel_rfl) (by kernel_rfl) (by kernel_rfl) (fun _ _ _ h => h) (Or.inl ⟨by kernel_rfl, ?_⟩) (by assumption) ?_
        rotate_left
        · ((intro W hSw; (try dsimp only at hSw); go_simp) <;> with_reducible rfl)
        try simp only [Act.put, List.setIfInBounds_toArray, List.set_cons_zero, List.set_cons_succ]
        refine wpAnyG_take (i := 5) (oi := ⟨some 26, _, _, _, _, _⟩) (v := ?_) rfl (by kernel_rfl) (by kernel_rfl) (by kernel_rfl) (by kernel_rfl) (fun _ _ _ h => h) (Or.inl ⟨by kernel_rfl, ?_⟩) (by assumption) ?_
        rotate_left
        · ((intro W hSw; (try dsimp only at hSw); go_simp) <;> with_reducible rfl)
        try simp only [Act.put, List.setIfInBounds_toArray, List.set_cons_zero, List.set_cons_succ]
        refine wpAnyG_take (i := 6) (oi := ⟨some 27, _, _, _, _, _⟩) (v := ?_) rfl (by kernel_rfl) (by kernel_rfl) (by kernel_rfl) (by kernel_rfl) (fun _ _ _ h => h) (Or.inl ⟨by kernel_rfl, ?_⟩) (by assumption) ?_
        rotate_left
        · ((intro W hSw; (try dsimp only at hSw); go_simp) <;> with_reducible rfl)
        try simp only [Act.put, List.setIfInBounds_toArray, List.set_cons_zero, List.set_cons_succ]
        refine wpAnyG_take (i := 7) (oi := ⟨some 28, _, _, _, _, _⟩) (v := ?_) rfl (by kernel_rfl) (by kernel_rfl) (by kernel_rfl) (by kernel_rfl) (fun _ _ _ h => h) (Or.inl ⟨by kernel_rfl, ?_⟩) (by assumption) ?_
        rotate_left
        · ((intro W hSw; (try dsimp only at hSw); go_simp) <;> with_reducible rfl)
        try simp only [Act.put, List.setIfInBounds_toArray, List.set_cons_zero, List.set_cons_succ]
        refine wpAnyG_take (i := 9) (oi := ⟨some 30, _, _, _, _, _⟩) (v := ?_) rfl (by kernel_rfl) (by kernel_rfl) (by kernel_rfl) (by kernel_rfl) (fun _ _ _ h => h) (Or.inl ⟨by kernel_rfl, ?_⟩) (by assumption) ?_
        rotate_left
        · ((intro W hSw; (try dsimp only at hSw); go_simp) <;> with_reducible rfl)
        try simp only [Act.put, List.setIfInBounds_toArray, List.set_cons_zero, List.set_cons_succ]
        refine wpAnyG_take (i := 10) (oi := ⟨some 31, _, _, _, _, _⟩) (v := ?_) rfl (by kernel_rfl) (by kernel_rfl) (by kernel_rfl) (by kernel_rfl) (fun _ _ _ h => h) (Or.inl ⟨by kernel_rfl, ?_⟩) (by assumption) ?_
        rotate_left
        · ((intro W hSw; (try dsimp only at hSw); go_simp) <;> with_reducible rfl)
        try simp only [Act.put, List.setIfInBounds_toArray, List.set_cons_zero, List.set_cons_succ]
        refine wpAnyG_take (i := 11) (oi := ⟨some 32, _, _, _, _, _⟩) (v := ?_) rfl (by kernel_rfl) (by kernel_rfl) (by kernel_rfl) (by kernel_rfl) (fun _ _ _ h => h) (Or.inl ⟨by kernel_rfl, ?_⟩) (by assumption) ?_
        rotate_left
        · ((intro W hSw; (try dsimp only at hSw); go_simp) <;> with_reducible rfl)
        try simp only [Act.put, List.setIfInBounds_toArray, List.set_cons_zero, List.set_cons_succ]
        refine wpAnyG_take (i := 12) (oi := ⟨some 33, _, _, _, _, _⟩) (v := ?_) rfl (by kernel_rfl) (by kernel_rfl) (by kernel_rfl) (by kernel_rfl) (fun _ _ _ h => h) (Or.inl ⟨by kernel_rfl, ?_⟩) (by assumption) ?_
        rotate_left
        · ((intro W hSw; (try dsimp only at hSw); go_simp) <;> with_reducible rfl)
        try simp only [Act.put, List.setIfInBounds_toArray, List.set_cons_zero, List.set_cons_succ]
        refine wpAnyG_take (i := 13) (oi := ⟨some 34, _, _, _, _, _⟩) (v := ?_) rfl (by kernel_rfl) (by kernel_rfl) (by kernel_rfl) (by kernel_rfl) (fun _ _ _ h => h) (Or.inl ⟨by kernel_rfl, ?_⟩) (by assumption) ?_
        rotate_left
        · ((intro W hSw; (try dsimp only at hSw); go_simp) <;> with_reducible rfl)
        try simp only [Act.put, List.setIfInBounds_toArray, List.set_cons_zero, List.set_cons_succ]
        refine wpAnyG_take (i := 14) (oi := ⟨some 35, _, _, _, _, _⟩) (v := ?_) rfl (by kernel_rfl) (by kernel_rfl) (by kernel_rfl) (by kernel_rfl) (fun _ _ _ h => h) (Or.inl ⟨by kernel_rfl, ?_⟩) (by assumption) ?_
        rotate_left
        · ((intro W hSw; (try dsimp only at hSw); go_simp) <;> with_reducible rfl)
        try simp only [Act.put, List.setIfInBounds_toArray, List.set_cons_zero, List.set_cons_succ]
        refine wpAnyG_take (i := 15) (oi := ⟨some 36, _, _, _, _, _⟩) (v := ?_) rfl (by kernel_rfl) (by kernel_rfl) (by kernel_rfl) (by kernel_rfl) (fun _ _ _ h => h) (Or.inl ⟨by kernel_rfl, ?_⟩) (by assumption) ?_
        rotate_left
        · ((intro W hSw; (try dsimp only at hSw); go_simp) <;> with_reducible rfl)
        try simp only [Act.put, List.setIfInBounds_toArray, List.set_cons_zero, List.set_cons_succ]
        refine wpAnyG_one (i := 1) (o := ⟨some 22, _, _, _, _, _⟩) (by kernel_rfl) rfl (by decide) (fun K hK => ?_)
        go_simp
        refine hK.out _ _ (by go_keep) (fun hHeld => ?_)
        clear hK K
        try simp only [Act.put, List.setIfInBounds_toArray, List.set_cons_zero, List.set_cons_succ]
        refine wpAnyG_one (i := 8) (o := ⟨some 29, _, _, _, _, _⟩) (by kernel_rfl) rfl (by decide) (fun K hK => ?_)
        refine step_append_at _ rfl _ _ 80 rfl wq.heap.size 84 i0 _ 2 16 Tryd.underlying80 hi hz0 hz1 hz2 rfl (by decide) _ 0 [] (by rfl) HE0.out ⟨g, 0, none⟩ j c _ (by rfl) HL1.out HS1.out H11.out (by unfold maxLen; omega) (by omega) (by simp) ?_
        intro v5 w5 hown5 hgrow5
        have hB5 := below_grown (B := wq.heap.size) hgrow5 (by simp) (fun q hq => by cases hq; exact Nat.le_refl _)
        have HB5 := Lib.hid (((Below.refl wq.heap.size wq).drew.alloc (Nat.le_refl _) (.cells #[] 84)).trans hB5)
        have HT5 := Lib.hid (HTq.out.below HB5.out)
        have k5 := HT5.out.c0.2
        rw [HK.out] at k5
        have HO5 := Lib.hid hown5
        clear hown5 hgrow5 hB5
        refine hK.out _ _ (k5) (fun hHeld => ?_)
        clear hK K
        try simp only [Act.put, List.setIfInBounds_toArray, List.set_cons_zero, List.set_cons_succ]
        refine wpAnyG_one (i := 16) (o := ⟨some 37, _, _, _, _, _⟩) (by kernel_rfl) rfl (by decide) (fun K hK => ?_)
        refine step_append_at _ rfl _ _ 80 rfl wq.heap.size 84 i0 _ 2 16 Tryd.underlying80 hi hz0 hz1 hz2 rfl (by decide) _ _ _ (by rfl) HO5.out A k (c - (j + 1)) _ (by rfl) HL2.out (hnews.out _ HT5.out.row) H12.out (by unfold maxLen; omega) (by omega) (by exact HB5.out.size) ?_
        intro v6 w6 hown6 hgrow6
        have hB6 := below_grown (B := wq.heap.size) hgrow6 HB5.out.size (fun q hq => (HO5.out.lt q hq).1)
        obtain ⟨a6, c6, rfl⟩ := own_shape hown6
        have HB6 := Lib.hid (HB5.out.trans hB6)
        have HT6 := Lib.hid (HTq.out.below HB6.out)
        have k6 := HT6.out.c0.2
        rw [HK.out] at k6
        have hfr6 := HT6.out.t.free 1
        have HO6 := Lib.hid hown6
        clear hown6 hgrow6 hB6
        refine hK.out _ _ (k6) (fun hHeld => ?_)
        clear hK K
        try simp only [Act.put, List.setIfInBounds_toArray, List.set_cons_zero, List.set_cons_succ]
        refine wpAnyG_one (i := 17) (o := ⟨some 38, _, _, _, _, _⟩) (by kernel_rfl) rfl (by decide) (fun K hK => ?_)
        go_simp
        refine hK.out _ _ (hHeld) (fun hHeld => ?_)
        clear hK K
        try simp only [Act.put, List.setIfInBounds_toArray, List.set_cons_zero, List.set_cons_succ]
        refine wpAnyG_one (i := 18) (o := ⟨some 39, _, _, _, _, _⟩) (by kernel_rfl) rfl (by decide) (fun K hK => ?_)
        go_simp
        refine hK.out _ _ (hHeld) (fun hHeld => ?_)
        clear hK K
        try simp only [Act.put, List.setIfInBounds_toArray, List.set_cons_zero, List.set_cons_succ]
        refine wpAnyG_last (o := ⟨none, _, _, _, _, _⟩) (by kernel_rfl) rfl (fun K hK => ?_)
        go_simp
        refine hK.out _ _ ?_
        clear hK K
        try simp only [Act.put, List.setIfInBounds_toArray, List.set_cons_zero, List.set_cons_succ]
        refine wpAnyG_done (by kernel_rfl) ?_ _
        go_wp2_with fail
        go_ret
        have e1 : (l.eraseIdx j).length = 0 + j + k := by rw [List.length_eraseIdx, if_pos hlt, HK.out]; omega
        have hne : (Value.slice a6 (0 + j + k) c6).ownBlock ≠ some T := fun e => by
          have := (HO6.out.lt T e).1; omega
        have hwq := HBq.out.size
        have hge := HT.out.ge
        have htl := HT.out.t.lt
        unfold mGet mDrop
        rw [HF.out, HIX.out, if_neg (by omega), Int.toNat_natCast]
        refine ⟨rfl, .slice a6 (0 + j + k) c6, ⟨?_, ?_, hne, HT.out.ge⟩, ?_, ?_⟩
        · simpa using HT6.out.t.set 1 (.slice a6 (0 + j + k) c6)
        · rw [e1, erase_cells l j hlt]
          refine ownsRow_far (S := fun q => q = T) ?_ (fr_set (.inl rfl) (Fr.refl _ _)) (fun q hq e => hne (by rw [hq, e]))
          have h6 := ownsRow_base (B := B) HO6.out (by omega)
          simpa using h6
        · exact fr_set (.inl (.inl rfl)) (Fr.of_below (HBq.out.trans (HB6.out.mono hwq)))
        · intro q hq
          have := (HO6.out.lt q hq).1
          exact .inr (by omega)
      · have hp2 : (e.line == line) = false := by simpa using hp
        have HP := Lib.hid hp2
        clear hp
        go_wp2_with fail
        go_roundw
        case rel =>
          refine ⟨j + 1, by omega, by go_num, HB.out.alloc HB.out.size _, ?_⟩
          intro q hj e' he'
          rcases Nat.lt_succ_iff_lt_or_eq.1 hj with h | h
          · exact HN.out q h e' he'
          · subst h
            have := HE.out
            rw [this] at he'
            cases he'
            exact HP.out
        case measure => simp [intOf]; omega
    · obtain rfl : j = l.length := by omega
      have HIX := Lib.hid (idxOf_none HN.out)
      go_wp2_with fail
      go_ret
      refine ⟨?_, .slice a l.length c, ?_⟩
      · unfold mGet
        rw [find_no HN.out]
        rfl
      · unfold mDrop
        rw [HIX.out, if_pos (by omega)]
        exact .same HT.out HB.out
end Go.Proofs.YtjmlficbnljiaaaDoor
