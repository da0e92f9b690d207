/- The document's table of misses: Add. -/
import Derived.Test.YtjmlficbnljiaaaDoorMisR
import Derived.Deep.CutRange
import Derived.Deep.CutBlock
import Derived.BigQuiet
namespace Go.Proofs.YtjmlficbnljiaaaDoor
open Go.RowKit

/-- The place of a line, as a loop finds it. -/
theorem pos_loop : ∀ {l : List Mis} {line : Int} {k : Nat}, k ≤ l.length → (∀ q, q < k → ∀ e, l[q]? = some e → e.line < line) → (∀ e, l[k]? = some e → ¬ e.line < line) → k = mPos l line
  | [], line, k, hk, _, _ => by simp at hk; subst hk; rfl
  | e :: l, line, k, hk, hlo, hhi => by
    unfold mPos
    rw [List.takeWhile_cons]
    by_cases hc : e.line < line
    · rw [decide_eq_true hc, if_pos rfl]
      rcases k with _ | k
      · exact absurd hc (hhi e rfl)
      · rw [List.length_cons, pos_loop (l := l) (line := line) (k := k) (by simp at hk; omega) (fun q hq f hf => hlo (q + 1) (by omega) f (by simpa using hf)) (fun f hf => hhi f (by simpa using hf))]; rfl
    · rw [decide_eq_false hc]
      rcases k with _ | k
      · rfl
      · exact absurd (hlo 0 (by omega) e rfl) hc

theorem mPos_le (l : List Mis) (line : Int) : mPos l line ≤ l.length := (List.takeWhile_prefix _).length_le
theorem any_found {l : List Mis} {line : Int} {k : Nat} {e : Mis} (h : l[k]? = some e) (hp : isMis line e = true) : l.any (isMis line) = true := List.any_eq_true.2 ⟨e, List.mem_of_getElem? h, hp⟩
theorem any_no {l : List Mis} {line : Int} (hn : ∀ j, j < l.length → ∀ b, l[j]? = some b → isMis line b = false) : ¬ l.any (isMis line) = true := by
  intro h
  obtain ⟨e, he, hp⟩ := List.any_eq_true.1 h
  obtain ⟨q, hq, rfl⟩ := List.getElem_of_mem he
  rw [hn q hq _ (List.getElem?_eq_getElem hq)] at hp
  cases hp

section
variable {P : Program}
/-- append of nil, as one step of a region that draws. -/
theorem step_append_nil (w : World) {ops : Array Oper} {o : Oper} {a : Act} {K : Act → World → Prop} {Q : Exit → Act → World → Prop} {E : Prop} (hgd : o.guard = none) (s x : Operand) (t : TypeId)
    (ho : o.op = .call { callee := .builtin .append, args := #[s, x], argTypes := #[t, t] }) (e : TypeId) (i : TypeInfo) (size : Nat) (ht : P.underlying t = some (.slice e)) (hi : P.info? e = some i) (_hsize : i.size = size)
    (base : Nat) (v : Value) (n : Nat) (xs : List Value) (hs : a.eval s = v) (hown : w.ownsRow base e size v n xs) (c : Nat) (hx : a.eval x = .slice none 0 c) (h : K (a.put o.dst v) w) :
    if Region.wanted o (yielded ops a.tmps) = true then Oper.wp P o a w K Q else E := by
  have hw : Region.wanted o (yielded ops a.tmps) = true := by simp [Region.wanted, hgd]
  rw [if_pos hw]
  have hrun : (Builtin.append_ #[t, t] o.type #[v, .slice none 0 c]).run P w = .ok v w := by
    rcases hown.2 with ⟨rfl, rfl⟩ | ⟨g, cap, cur, rfl, _, _, hnc, _⟩
    · simp [Builtin.append_, run_underlying ht, sizeOf, typeInfo, hi, Builtin.lenOf, Builtin.firstCells]
    · simp [Builtin.append_, run_underlying ht, sizeOf, typeInfo, hi, Builtin.lenOf, Builtin.firstCells, hnc, storeCells]
  unfold Oper.wp execOp
  simp only [ho, resolve, invoke, builtin, Sem.run_bind, Sem.run_pure, Result.andThen_ok, List.map_toArray, List.map_cons, List.map_nil, hs, hx, hrun]
  exact h
end
theorem Blk.grown' {w w' : World} {b : Nat} {t : TypeId} {l : List Value} {row : Option Nat} (h : Blk w b t l) (hg : w.grownBy w' row) (hne : some b ≠ row) : Blk w' b t l := by
  have h' : w.heap[b]? = some (.cells l.toArray t (0, 0)) := h
  simpa [Blk, hg.block b h.lt hne] using h'
theorem cells_of_blk {w : World} {b : Nat} {t : TypeId} {l : List Value} (h : Blk w b t l) : ∀ q u, l[q]? = some u → w.cell? ((⟨b, 0, none⟩ : Addr).add q) = some u := fun q u hq => by rw [add_zero_at, h.cell]; exact hq
theorem mis_news (W : World) (b : Nat) (m : Mis) (hb : W.heap.size = b) : ∀ q u, m.cells[q]? = some u → (W.alloc (.cells #[.int .i64 m.line, .int .i64 m.kind] 84)).cell? ((⟨b, 0, none⟩ : Addr).add q) = some u := by
  subst hb
  exact cells_of_blk (Blk.new W #[.int .i64 m.line, .int .i64 m.kind] 84)

section
variable {w w4 w7 : World} {T B : Nat} {most : Int} {l : List Mis}
theorem radd_end {v : Value} {i k c7 : Nat} {a7 : Option Addr} {line kind : Int} (h4 : TabAt w4 T B 82 84 most v l) (hB4 : Below w.heap.size w w4)
    (h7 : TabAt w7 T B 82 84 most v l) (hB7 : Below w4.heap.size w4 w7) (hil : i ≤ l.length) (hk : l.length = i + k)
    (ho : w7.ownsRow w4.heap.size 84 2 (.slice a7 (i + 1 + k) c7) (i + 1 + k) ([] ++ (flat Mis.cells l).take (i * 2) ++ Mis.cells ⟨line, kind⟩ ++ (flat Mis.cells l).drop (i * 2))) :
    ∃ v', TabStep w (w7.setCell ⟨T, 1, none⟩ (.slice a7 (i + 1 + k) c7)) T B 82 84 most v v' (insAt l i ⟨line, kind⟩) := by
  have hge := h4.ge
  have htl := h4.t.lt
  have hz := hB4.size
  have hne : (Value.slice a7 (i + 1 + k) c7).ownBlock ≠ some T := fun e => by have := (ho.lt T e).1; omega
  have e1 : (insAt l i ⟨line, kind⟩).length = i + 1 + k := by rw [insAt_length _ _ _ hil, hk]; omega
  refine ⟨.slice a7 (i + 1 + k) c7, ⟨?_, ?_, hne, h4.ge⟩, ?_, ?_⟩
  · simpa using h7.t.set 1 (.slice a7 (i + 1 + k) c7)
  · rw [e1, insAt_cells l i _ hil]
    refine ownsRow_far (S := fun q => q = T) ?_ (fr_set (.inl rfl) (Fr.refl _ _)) (fun q hq e => hne (by rw [hq, e]))
    have h6 := ownsRow_base (B := B) ho (by omega)
    simpa using h6
  · exact fr_set (.inl (.inl rfl)) (Fr.of_below (hB4.trans (hB7.mono hz)))
  · intro q hq
    have := (ho.lt q hq).1
    exact .inr (by omega)
theorem radd_end_nil {v : Value} {n c7 : Nat} {a7 : Option Addr} {line kind : Int} {xs : List Value} (h4 : TabAt w4 T B 82 84 most v []) (hB4 : Below w.heap.size w w4)
    (h7 : TabAt w7 T B 82 84 most v []) (hB7 : Below w4.heap.size w4 w7)
    (ho : w7.ownsRow w4.heap.size 84 2 (.slice a7 n c7) n xs) (hn : n = 1 := by rfl) (hxs : xs = Mis.cells ⟨line, kind⟩ := by rfl) :
    ∃ v', TabStep w (w7.setCell ⟨T, 1, none⟩ (.slice a7 n c7)) T B 82 84 most v v' (insAt [] 0 ⟨line, kind⟩) := by
  subst hn
  subst hxs
  have hge := h4.ge
  have htl := h4.t.lt
  have hz := hB4.size
  have hne : (Value.slice a7 1 c7).ownBlock ≠ some T := fun e => by have := (ho.lt T e).1; omega
  refine ⟨.slice a7 1 c7, ⟨?_, ?_, hne, h4.ge⟩, ?_, ?_⟩
  · simpa using h7.t.set 1 (.slice a7 1 c7)
  · refine ownsRow_far (S := fun q => q = T) ?_ (fr_set (.inl rfl) (Fr.refl _ _)) (fun q hq e => hne (by rw [hq, e]))
    have h6 := ownsRow_base (B := B) ho (by omega)
    simpa [insAt, flat] using h6
  · exact fr_set (.inl (.inl rfl)) (Fr.of_below (hB4.trans (hB7.mono hz)))
  · intro q hq
    have := (ho.lt q hq).1
    exact .inr (by omega)
end

variable {w : World} {T B : Nat} {most : Int} {v : Value} {l : List Mis}

set_option maxHeartbeats 1600000 in
set_option maxRecDepth 10000 in
theorem RAdd_bad (line kind : Int) (hb : badMis line kind) :
    Calls Tryd.prog 29 #[.pointer (some ⟨T, 0, none⟩), .int .i64 line, .int .i64 kind] w fun r w' => r = .returned (.int .i64 1) ∧ w = w' := by
  unfold badMis at hb
  by_cases h1 : line < 0
  · go_enter Tryd.func29, Tryd.ntmps29
    go_wp2_with fail
    go_ret
    exact ⟨rfl, rfl⟩
  · by_cases h2 : 32 ≤ line
    · go_enter Tryd.func29, Tryd.ntmps29
      go_wp2_with fail
      go_ret
      exact ⟨rfl, rfl⟩
    · by_cases h3 : kind < 1
      · go_enter Tryd.func29, Tryd.ntmps29
        go_wp2_with fail
        go_ret
        exact ⟨rfl, rfl⟩
      · have h4 : 4 < kind := by omega
        go_enter Tryd.func29, Tryd.ntmps29
        go_wp2_with fail
        go_ret
        exact ⟨rfl, rfl⟩

set_option maxHeartbeats 6400000 in
set_option maxRecDepth 20000 in
theorem RAdd_good (h : TabAt w T B 82 84 most v l) (hl : l.length ≤ 8) (line kind : Int) (hnb : ¬ badMis line kind) :
    Calls Tryd.prog 29 #[.pointer (some ⟨T, 0, none⟩), .int .i64 line, .int .i64 kind] w fun r w' => r = .returned (.int .i64 ((mAdd most l line kind).1 : Nat)) ∧ ∃ v', TabStep w w' T B 82 84 most v v' (mAdd most l line kind).2 := by
  have hA : (mAdd most l line kind) = if l.any (isMis line) = true then (7, l) else if most ≤ l.length then (6, l) else (0, insAt l (mPos l line) ⟨line, kind⟩) := by unfold mAdd; rw [if_neg hnb]
  obtain ⟨res, hres⟩ : ∃ res, mAdd most l line kind = res := ⟨_, rfl⟩
  rw [hres] at hA ⊢
  have HRES := Lib.hid hA
  clear hA hres
  unfold badMis at hnb
  have n0 : ¬ line < 0 := by omega
  have n1 : line < 32 := by omega
  have n2 : ¬ kind < 1 := by omega
  have n3 : kind ≤ 4 := by omega
  obtain ⟨i0, hi, hz0, hz1, hz2⟩ := info_parts infoRMis
  obtain ⟨a, c, g, rfl, hm, hown, hlc, hcm⟩ := MisAt.of_own h.row
  obtain ⟨c0, c1⟩ := h.c0
  have HM := Lib.hid hm
  have HT := Lib.hid h
  have HOW := Lib.hid hown
  unfold maxLen at hcm
  clear h hm hown hnb
  go_enter Tryd.func29, Tryd.ntmps29
  go_wp2_with fail
  go_loopw [29] (fun i wr => ∃ k : Nat, k ≤ l.length ∧ i = .int .i64 k ∧ Below w.heap.size w wr ∧ ∀ j, j < k → ∀ e, l[j]? = some e → isMis line e = false) (fun i _ => l.length - (intOf i).toNat)
  case atStart => exact ⟨0, Nat.zero_le _, rfl, Below.refl _ _, fun j hj => by omega⟩
  case round =>
    obtain ⟨j, hk, rfl, hB, hno⟩ := hrel
    have HN := Lib.hid hno
    have HB := Lib.hid hB
    clear hno hB c0 c1
    by_cases hlt : j < l.length
    · obtain ⟨e, he⟩ : ∃ e, l[j]? = some e := ⟨_, List.getElem?_eq_getElem hlt⟩
      have HE := Lib.hid he; clear he
      obtain rfl := HM.out.addr (by rintro rfl; simp at hlt)
      obtain ⟨d0, d1⟩ := (HM.out.below HB.out (Nat.le_refl _)).two HE.out
      by_cases hp : e.line = line
      · have hp2 : (e.line == line) = true := by simpa using hp
        have HF := Lib.hid (any_found (line := line) HE.out (by simpa [isMis] using hp))
        clear hp
        go_wp2_with fail
        go_ret
        rw [HRES.out, if_pos HF.out]
        exact ⟨rfl, _, .same HT.out (HB.out.alloc HB.out.size _)⟩
      · have hp2 : (e.line == line) = false := by simpa using hp
        have HP := Lib.hid hp2
        clear hp
        go_wp2_with fail
        go_roundw
        case rel =>
          refine ⟨j + 1, by omega, by go_num, HB.out.alloc HB.out.size _, ?_⟩
          intro q hj e' he'
          rcases Nat.lt_succ_iff_lt_or_eq.1 hj with h | h
          · exact HN.out q h e' he'
          · subst h
            have := HE.out
            rw [this] at he'
            cases he'
            exact HP.out
        case measure => simp [intOf]; omega
    · obtain rfl : j = l.length := by omega
      have hres2 := HRES.out
      rw [if_neg (any_no HN.out)] at hres2
      clear HRES
      have HTr := Lib.hid (HT.out.below HB.out)
      obtain ⟨c0, c1⟩ := HTr.out.c0
      by_cases hfull : most ≤ l.length
      · rw [if_pos hfull] at hres2
        subst hres2
        go_wp2_with fail
        go_quiet (fail)
        have hB4 := below_drewN HB.out nq
        go_wp2_with fail
        go_ret
        exact ⟨rfl, _, .same HT.out hB4⟩
      · rw [if_neg hfull] at hres2
        subst hres2
        go_wp2_with fail
        go_quiet (fail)
        have hB4 := below_drewN HB.out nq
        have HT4 := Lib.hid (HT.out.below hB4)
        have HB4 := Lib.hid hB4
        generalize wr.drewN nq = w4 at *
        clear c0 c1 hB4
        obtain ⟨c0, c1⟩ := HT4.out.c0
        have HPL := Lib.hid (mPos_le l line)
        go_upto_block 2 with (fail)
        clear hfull
        go_cut [9] from 48 to 68 (fun s9 wx => s9 = .int .i64 (mPos l line : Nat) ∧ w4 = wx)
        case first =>
          go_wp2_with fail
          go_loop [9] (fun i => ∃ k : Nat, k ≤ l.length ∧ i = .int .i64 k ∧ ∀ q, q < k → ∀ e, l[q]? = some e → e.line < line) (fun i => l.length - (intOf i).toNat)
          case atStart => exact ⟨0, Nat.zero_le _, rfl, fun j hj => by omega⟩
          case round =>
            obtain ⟨i, hil, rfl, hno⟩ := hrel
            have HLO := Lib.hid hno
            clear hno
            by_cases hlt2 : i < l.length
            · obtain ⟨e, he⟩ : ∃ e, l[i]? = some e := ⟨_, List.getElem?_eq_getElem hlt2⟩
              have HE := Lib.hid he; clear he
              obtain rfl := HM.out.addr (by rintro rfl; simp at hlt2)
              obtain ⟨d0, d1⟩ := (HM.out.below HB4.out (Nat.le_refl _)).two HE.out
              by_cases hp : e.line < line
              · have HP := Lib.hid hp
                go_wp2_with fail
                go_round
                case rel =>
                  refine ⟨i + 1, by omega, by go_num, ?_⟩
                  intro q hj e' he'
                  rcases Nat.lt_succ_iff_lt_or_eq.1 hj with h | h
                  · exact HLO.out q h e' he'
                  · subst h
                    have := HE.out
                    rw [this] at he'
                    cases he'
                    exact HP.out
                case measure => simp [intOf]; omega
              · have HPOS := Lib.hid (pos_loop hil HLO.out (fun f hf => by have := HE.out; rw [this] at hf; cases hf; exact hp))
                go_wp2_with fail
                go_meet
                case rel => exact ⟨by rw [← HPOS.out], rfl⟩
            · have HPOS := Lib.hid (pos_loop hil HLO.out (fun f hf => by rw [List.getElem?_eq_none (by omega)] at hf; cases hf))
              go_wp2_with fail
              go_meet
              case rel => exact ⟨by rw [← HPOS.out], rfl⟩
        case rest =>
          obtain ⟨rfl, rfl⟩ := hcut
          obtain ⟨i, hi9⟩ : ∃ i, mPos l line = i := ⟨_, rfl⟩
          rw [hi9] at HPL ⊢
          have HI9 := Lib.hid hi9
          clear hi9
          have hil := HPL.out
          have HBa : Hid (Below w4.heap.size w4 (w4.drew.alloc (.cells #[] 84))) := Lib.hid ((Below.refl w4.heap.size w4).drew.alloc (Nat.le_refl _) _)
          have HBb : Hid (Below w4.heap.size w4 ((w4.drew.alloc (.cells #[] 84)).alloc (.cells #[.int .i64 line, .int .i64 kind] 84))) := Lib.hid (HBa.out.alloc HBa.out.size _)
          have HBc : Hid (Below w4.heap.size w4 ((w4.drew.alloc (.cells #[.int .i64 line, .int .i64 kind] 84)).alloc (.cells #[] 84))) := Lib.hid (((Below.refl w4.heap.size w4).drew.alloc (Nat.le_refl _) (.cells #[.int .i64 line, .int .i64 kind] 84)).alloc (by simp) _)
          have HEa := Lib.hid (own_empty (w := w4.drew.alloc (.cells #[] 84)) (B := w4.heap.size) (Blk.new w4.drew #[] 84) (Nat.le_refl _))
          have HEb := Lib.hid (HEa.out.alloc (.cells #[.int .i64 line, .int .i64 kind] 84))
          have hnc : Blk ((w4.drew.alloc (.cells #[.int .i64 line, .int .i64 kind] 84)).alloc (.cells #[] 84)) (w4.heap.size + 1) 84 [] := by simpa using Blk.new (w4.drew.alloc (.cells #[.int .i64 line, .int .i64 kind] 84)) #[] 84
          have HEc := Lib.hid (own_empty (B := w4.heap.size) hnc (Nat.le_succ _))
          have hxb : Blk ((w4.drew.alloc (.cells #[] 84)).alloc (.cells #[.int .i64 line, .int .i64 kind] 84)) (w4.heap.size + 1) 84 (Mis.cells ⟨line, kind⟩) := by simpa [Mis.cells] using Blk.new (w4.drew.alloc (.cells #[] 84)) #[.int .i64 line, .int .i64 kind] 84
          have HXb := Lib.hid hxb
          have HXa := Lib.hid (cells_of_blk hxb)
          have hxc : Blk ((w4.drew.alloc (.cells #[.int .i64 line, .int .i64 kind] 84)).alloc (.cells #[] 84)) w4.heap.size 84 (Mis.cells ⟨line, kind⟩) := (Blk.new w4.drew #[.int .i64 line, .int .i64 kind] 84).alloc _
          have HXc := Lib.hid hxc
          have HXO := Lib.hid (show ∀ u ∈ Mis.cells ⟨line, kind⟩, u.oneCell' = true from fun u hu => mis_one [⟨line, kind⟩] u (by simpa [flat] using hu))
          have hTq := HT4.out.t.lt
          have hTn : T ≠ w4.heap.size := Nat.ne_of_lt hTq
          have hTn1 : T ≠ w4.heap.size + 1 := by omega
          have hfl := flat_length Mis.cells_length l
          have k1 := HT4.out.c0.2
          clear hnc hxb hxc c0 c1
          cases a with
          | none =>
            have hn0 : l = [] := by
              rcases HT4.out.row.2 with ⟨-, h0⟩ | ⟨g, cap, cur, e, -⟩
              · exact List.eq_nil_of_length_eq_zero h0
              · cases e
            have hc0 : c = 0 := by
              rcases HT4.out.row.2 with ⟨e, -⟩ | ⟨g, cap, cur, e, -⟩
              · injection e
              · cases e
            subst hn0
            subst hc0
            have hi0 : i = 0 := by simpa using hil
            subst hi0
            simp only [List.length_nil] at k1 ⊢
            try simp only [Int.natCast_zero]
            go_upto_region 14 with (fail)
            refine wp_region_G (S := fun W => W.cell? ⟨T, 1, none⟩ = some (.slice none 0 0)) (f := 23) (by kernel_rfl) k1 (fun hHeld => ?_)
            refine wpAnyG_take (i := 0) (oi := ⟨some 69, _, _, _, _, _⟩) (v := ?_) rfl (by kernel_rfl) (by kernel_rfl) (by kernel_rfl) (by kernel_rfl) (fun _ _ _ h => h) (Or.inl ⟨by kernel_rfl, ?_⟩) (by assumption) ?_
            rotate_left
            · ((intro W hSw; (try dsimp only at hSw); go_simp) <;> with_reducible rfl)
            try simp only [Act.put, List.setIfInBounds_toArray, List.set_cons_zero, List.set_cons_succ]
            refine wpAnyG_take (i := 2) (oi := ⟨some 71, _, _, _, _, _⟩) (v := ?_) rfl (by kernel_rfl) (by kernel_rfl) (by kernel_rfl) (by kernel_rfl) (fun _ _ _ h => h) (Or.inl ⟨by kernel_rfl, ?_⟩) (by assumption) ?_
            rotate_left
            · ((intro W hSw; (try dsimp only at hSw); go_simp) <;> with_reducible rfl)
            try simp only [Act.put, List.setIfInBounds_toArray, List.set_cons_zero, List.set_cons_succ]
            refine wpAnyG_take (i := 3) (oi := ⟨some 72, _, _, _, _, _⟩) (v := ?_) rfl (by kernel_rfl) (by kernel_rfl) (by kernel_rfl) (by kernel_rfl) (fun _ _ _ h => h) (Or.inl ⟨by kernel_rfl, ?_⟩) (by assumption) ?_
            rotate_left
            · ((intro W hSw; (try dsimp only at hSw); go_simp) <;> with_reducible rfl)
            try simp only [Act.put, List.setIfInBounds_toArray, List.set_cons_zero, List.set_cons_succ]
            refine wpAnyG_take (i := 4) (oi := ⟨some 73, _, _, _, _, _⟩) (v := ?_) rfl (by kernel_rfl) (by kernel_rfl) (by kernel_rfl) (by kernel_rfl) (fun _ _ _ h => h) (Or.inl ⟨by kernel_rfl, ?_⟩) (by assumption) ?_
            rotate_left
            · ((intro W hSw; (try dsimp only at hSw); go_simp) <;> with_reducible rfl)
            try simp only [Act.put, List.setIfInBounds_toArray, List.set_cons_zero, List.set_cons_succ]
            refine wpAnyG_take (i := 5) (oi := ⟨some 74, _, _, _, _, _⟩) (v := ?_) rfl (by kernel_rfl) (by kernel_rfl) (by kernel_rfl) (by kernel_rfl) (fun _ _ _ h => h) (Or.inl ⟨by kernel_rfl, ?_⟩) (by assumption) ?_
            rotate_left
            · ((intro W hSw; (try dsimp only at hSw); go_simp) <;> with_reducible rfl)
            try simp only [Act.put, List.setIfInBounds_toArray, List.set_cons_zero, List.set_cons_succ]
            refine wpAnyG_take (i := 6) (oi := ⟨some 75, _, _, _, _, _⟩) (v := ?_) rfl (by kernel_rfl) (by kernel_rfl) (by kernel_rfl) (by kernel_rfl) (fun _ _ _ h => h) (Or.inl ⟨by kernel_rfl, ?_⟩) (by assumption) ?_
            rotate_left
            · ((intro W hSw; (try dsimp only at hSw); go_simp) <;> with_reducible rfl)
            try simp only [Act.put, List.setIfInBounds_toArray, List.set_cons_zero, List.set_cons_succ]
            refine wpAnyG_take (i := 7) (oi := ⟨some 76, _, _, _, _, _⟩) (v := ?_) rfl (by kernel_rfl) (by kernel_rfl) (by kernel_rfl) (by kernel_rfl) (fun _ _ _ h => h) (Or.inl ⟨by kernel_rfl, ?_⟩) (by assumption) ?_
            rotate_left
            · ((intro W hSw; (try dsimp only at hSw); go_simp) <;> with_reducible rfl)
            try simp only [Act.put, List.setIfInBounds_toArray, List.set_cons_zero, List.set_cons_succ]
            refine wpAnyG_take (i := 9) (oi := ⟨some 78, _, _, _, _, _⟩) (v := ?_) rfl (by kernel_rfl) (by kernel_rfl) (by kernel_rfl) (by kernel_rfl) (fun _ _ _ h => h) (Or.inl ⟨by kernel_rfl, ?_⟩) (by assumption) ?_
            rotate_left
            · ((intro W hSw; (try dsimp only at hSw); go_simp) <;> with_reducible rfl)
            try simp only [Act.put, List.setIfInBounds_toArray, List.set_cons_zero, List.set_cons_succ]
            refine wpAnyG_take (i := 10) (oi := ⟨some 79, _, _, _, _, _⟩) (v := ?_) rfl (by kernel_rfl) (by kernel_rfl) (by kernel_rfl) (by kernel_rfl) (fun _ _ _ h => h) (Or.inl ⟨by kernel_rfl, ?_⟩) (by assumption) ?_
            rotate_left
            · ((intro W hSw; (try dsimp only at hSw); go_simp) <;> with_reducible rfl)
            try simp only [Act.put, List.setIfInBounds_toArray, List.set_cons_zero, List.set_cons_succ]
            refine wpAnyG_take (i := 11) (oi := ⟨some 80, _, _, _, _, _⟩) (v := ?_) rfl (by kernel_rfl) (by kernel_rfl) (by kernel_rfl) (by kernel_rfl) (fun _ _ _ h => h) (Or.inl ⟨by kernel_rfl, ?_⟩) (by assumption) ?_
            rotate_left
            · ((intro W hSw; (try dsimp only at hSw); go_simp) <;> with_reducible rfl)
            try simp only [Act.put, List.setIfInBounds_toArray, List.set_cons_zero, List.set_cons_succ]
            refine wpAnyG_take (i := 14) (oi := ⟨some 83, _, _, _, _, _⟩) (v := ?_) rfl (by kernel_rfl) (by kernel_rfl) (by kernel_rfl) (by kernel_rfl) (fun _ _ _ h => h) (Or.inl ⟨by kernel_rfl, ?_⟩) (by assumption) ?_
            rotate_left
            · ((intro W hSw; (try dsimp only at hSw); go_simp) <;> with_reducible rfl)
            try simp only [Act.put, List.setIfInBounds_toArray, List.set_cons_zero, List.set_cons_succ]
            refine wpAnyG_take (i := 15) (oi := ⟨some 84, _, _, _, _, _⟩) (v := ?_) rfl (by kernel_rfl) (by kernel_rfl) (by kernel_rfl) (by kernel_rfl) (fun _ _ _ h => h) (Or.inl ⟨by kernel_rfl, ?_⟩) (by assumption) ?_
            rotate_left
            · ((intro W hSw; (try dsimp only at hSw); go_simp) <;> with_reducible rfl)
            try simp only [Act.put, List.setIfInBounds_toArray, List.set_cons_zero, List.set_cons_succ]
            refine wpAnyG_take (i := 16) (oi := ⟨some 85, _, _, _, _, _⟩) (v := ?_) rfl (by kernel_rfl) (by kernel_rfl) (by kernel_rfl) (by kernel_rfl) (fun _ _ _ h => h) (Or.inl ⟨by kernel_rfl, ?_⟩) (by assumption) ?_
            rotate_left
            · ((intro W hSw; (try dsimp only at hSw); go_simp) <;> with_reducible rfl)
            try simp only [Act.put, List.setIfInBounds_toArray, List.set_cons_zero, List.set_cons_succ]
            refine wpAnyG_take (i := 17) (oi := ⟨some 86, _, _, _, _, _⟩) (v := ?_) rfl (by kernel_rfl) (by kernel_rfl) (by kernel_rfl) (by kernel_rfl) (fun _ _ _ h => h) (Or.inl ⟨by kernel_rfl, ?_⟩) (by assumption) ?_
            rotate_left
            · ((intro W hSw; (try dsimp only at hSw); go_simp) <;> with_reducible rfl)
            try simp only [Act.put, List.setIfInBounds_toArray, List.set_cons_zero, List.set_cons_succ]
            refine wpAnyG_take (i := 18) (oi := ⟨some 87, _, _, _, _, _⟩) (v := ?_) rfl (by kernel_rfl) (by kernel_rfl) (by kernel_rfl) (by kernel_rfl) (fun _ _ _ h => h) (Or.inl ⟨by kernel_rfl, ?_⟩) (by assumption) ?_
            rotate_left
            · ((intro W hSw; (try dsimp only at hSw); go_simp) <;> with_reducible rfl)
            try simp only [Act.put, List.setIfInBounds_toArray, List.set_cons_zero, List.set_cons_succ]
            refine wpAnyG_take (i := 19) (oi := ⟨some 88, _, _, _, _, _⟩) (v := ?_) rfl (by kernel_rfl) (by kernel_rfl) (by kernel_rfl) (by kernel_rfl) (fun _ _ _ h => h) (Or.inl ⟨by kernel_rfl, ?_⟩) (by assumption) ?_
            rotate_left
            · ((intro W hSw; (try dsimp only at hSw); go_simp) <;> with_reducible rfl)
            try simp only [Act.put, List.setIfInBounds_toArray, List.set_cons_zero, List.set_cons_succ]
            refine wpAnyG_two (i := 1) (j := 12) (o := ⟨some 70, _, _, _, _, _⟩) (o' := ⟨some 81, _, _, _, _, _⟩) (by kernel_rfl) rfl rfl (by decide) (by decide) (fun K hK => ?_) (fun K hK => ?_)
            · go_simp
              refine hK.out _ _ (by go_keep) (fun hHeld => ?_)
              clear hK K
              try simp only [Act.put, List.setIfInBounds_toArray, List.set_cons_zero, List.set_cons_succ]
              refine wpAnyG_two (i := 8) (j := 12) (o := ⟨some 77, _, _, _, _, _⟩) (o' := ⟨some 81, _, _, _, _, _⟩) (by kernel_rfl) rfl rfl (by decide) (by decide) (fun K hK => ?_) (fun K hK => ?_)
              · refine step_append_nil _ rfl _ _ 80 rfl 84 i0 2 Tryd.underlying80 hi hz1 w4.heap.size _ 0 [] (by rfl) (HEa.out) 0 (by rfl) ?_
                have HO5 := Lib.hid (HEa.out)
                have HB5 := Lib.hid (HBa.out)
                refine hK.out _ _ (hHeld) (fun hHeld => ?_)
                clear hK K
                try simp only [Act.put, List.setIfInBounds_toArray, List.set_cons_zero, List.set_cons_succ]
                refine wpAnyG_one (i := 12) (o := ⟨some 81, _, _, _, _, _⟩) (by kernel_rfl) rfl (by decide) (fun K hK => ?_)
                go_simp
                refine hK.out _ _ (by go_keep) (fun hHeld => ?_)
                clear hK K
                try simp only [Act.put, List.setIfInBounds_toArray, List.set_cons_zero, List.set_cons_succ]
                refine wpAnyG_one (i := 13) (o := ⟨some 82, _, _, _, _, _⟩) (by kernel_rfl) rfl (by decide) (fun K hK => ?_)
                refine step_append_at _ rfl _ _ 80 rfl w4.heap.size 84 i0 _ 2 16 Tryd.underlying80 hi hz0 hz1 hz2 rfl (by decide) _ 0 [] (by rfl) (HO5.out.alloc (.cells #[.int .i64 line, .int .i64 kind] 84)) ⟨w4.heap.size + 1, 0, none⟩ 1 1 _ (by rfl) rfl (HXa.out) HXO.out (by unfold maxLen; omega) (by omega) (by first | (simp; done) | (simp; omega)) ?_
                intro v6 w6 hown6 hgrow6
                obtain ⟨a6, c6, rfl⟩ := own_shape hown6
                have HB6 := Lib.hid ((HB5.out.alloc HB5.out.size (.cells #[.int .i64 line, .int .i64 kind] 84)).trans (below_grown (B := w4.heap.size) hgrow6 (by first | (simp; done) | (simp; omega)) (fun q hq => ((HO5.out.alloc (.cells #[.int .i64 line, .int .i64 kind] 84)).lt q hq).1)))
                have HT6 := Lib.hid (HT4.out.below HB6.out)
                have k6 := HT6.out.c0.2
                have HO6 := Lib.hid hown6
                clear hown6 hgrow6
                refine hK.out _ _ (k6) (fun hHeld => ?_)
                clear hK K
                try simp only [Act.put, List.setIfInBounds_toArray, List.set_cons_zero, List.set_cons_succ]
                refine wpAnyG_one (i := 20) (o := ⟨some 89, _, _, _, _, _⟩) (by kernel_rfl) rfl (by decide) (fun K hK => ?_)
                refine step_append_nil _ rfl _ _ 80 rfl 84 i0 2 Tryd.underlying80 hi hz1 w4.heap.size _ _ _ (by rfl) HO6.out 0 (by rfl) ?_
                have hfr6 := HT6.out.t.free 1
                refine hK.out _ _ (hHeld) (fun hHeld => ?_)
                clear hK K
                try simp only [Act.put, List.setIfInBounds_toArray, List.set_cons_zero, List.set_cons_succ]
                refine wpAnyG_one (i := 21) (o := ⟨some 90, _, _, _, _, _⟩) (by kernel_rfl) rfl (by decide) (fun K hK => ?_)
                go_simp
                refine hK.out _ _ (hHeld) (fun hHeld => ?_)
                clear hK K
                try simp only [Act.put, List.setIfInBounds_toArray, List.set_cons_zero, List.set_cons_succ]
                refine wpAnyG_one (i := 22) (o := ⟨some 91, _, _, _, _, _⟩) (by kernel_rfl) rfl (by decide) (fun K hK => ?_)
                go_simp
                refine hK.out _ _ (hHeld) (fun hHeld => ?_)
                clear hK K
                try simp only [Act.put, List.setIfInBounds_toArray, List.set_cons_zero, List.set_cons_succ]
                refine wpAnyG_last (o := ⟨none, _, _, _, _, _⟩) (by kernel_rfl) rfl (fun K hK => ?_)
                go_simp
                refine hK.out _ _ ?_
                clear hK K
                try simp only [Act.put, List.setIfInBounds_toArray, List.set_cons_zero, List.set_cons_succ]
                refine wpAnyG_done (by kernel_rfl) ?_ _
                go_wp2_with fail
                go_ret
                exact ⟨rfl, by rw [HI9.out]; exact radd_end_nil HT4.out HB4.out HT6.out HB6.out HO6.out⟩
              · go_simp
                refine hK.out _ _ (by go_keep) (fun hHeld => ?_)
                clear hK K
                try simp only [Act.put, List.setIfInBounds_toArray, List.set_cons_zero, List.set_cons_succ]
                refine wpAnyG_one (i := 8) (o := ⟨some 77, _, _, _, _, _⟩) (by kernel_rfl) rfl (by decide) (fun K hK => ?_)
                refine step_append_nil _ rfl _ _ 80 rfl 84 i0 2 Tryd.underlying80 hi hz1 w4.heap.size _ 0 [] (by rfl) (HEb.out) 0 (by rfl) ?_
                have HO5 := Lib.hid (HEb.out)
                have HB5 := Lib.hid (HBb.out)
                have HX5 := Lib.hid HXa.out
                refine hK.out _ _ (hHeld) (fun hHeld => ?_)
                clear hK K
                try simp only [Act.put, List.setIfInBounds_toArray, List.set_cons_zero, List.set_cons_succ]
                refine wpAnyG_one (i := 13) (o := ⟨some 82, _, _, _, _, _⟩) (by kernel_rfl) rfl (by decide) (fun K hK => ?_)
                refine step_append_at _ rfl _ _ 80 rfl w4.heap.size 84 i0 _ 2 16 Tryd.underlying80 hi hz0 hz1 hz2 rfl (by decide) _ 0 [] (by rfl) (HO5.out) ⟨w4.heap.size + 1, 0, none⟩ 1 1 _ (by rfl) rfl (HX5.out) HXO.out (by unfold maxLen; omega) (by omega) (HB5.out.size) ?_
                intro v6 w6 hown6 hgrow6
                obtain ⟨a6, c6, rfl⟩ := own_shape hown6
                have HB6 := Lib.hid ((HB5.out).trans (below_grown (B := w4.heap.size) hgrow6 (HB5.out.size) (fun q hq => ((HO5.out).lt q hq).1)))
                have HT6 := Lib.hid (HT4.out.below HB6.out)
                have k6 := HT6.out.c0.2
                have HO6 := Lib.hid hown6
                clear hown6 hgrow6
                refine hK.out _ _ (k6) (fun hHeld => ?_)
                clear hK K
                try simp only [Act.put, List.setIfInBounds_toArray, List.set_cons_zero, List.set_cons_succ]
                refine wpAnyG_one (i := 20) (o := ⟨some 89, _, _, _, _, _⟩) (by kernel_rfl) rfl (by decide) (fun K hK => ?_)
                refine step_append_nil _ rfl _ _ 80 rfl 84 i0 2 Tryd.underlying80 hi hz1 w4.heap.size _ _ _ (by rfl) HO6.out 0 (by rfl) ?_
                have hfr6 := HT6.out.t.free 1
                refine hK.out _ _ (hHeld) (fun hHeld => ?_)
                clear hK K
                try simp only [Act.put, List.setIfInBounds_toArray, List.set_cons_zero, List.set_cons_succ]
                refine wpAnyG_one (i := 21) (o := ⟨some 90, _, _, _, _, _⟩) (by kernel_rfl) rfl (by decide) (fun K hK => ?_)
                go_simp
                refine hK.out _ _ (hHeld) (fun hHeld => ?_)
                clear hK K
                try simp only [Act.put, List.setIfInBounds_toArray, List.set_cons_zero, List.set_cons_succ]
                refine wpAnyG_one (i := 22) (o := ⟨some 91, _, _, _, _, _⟩) (by kernel_rfl) rfl (by decide) (fun K hK => ?_)
                go_simp
                refine hK.out _ _ (hHeld) (fun hHeld => ?_)
                clear hK K
                try simp only [Act.put, List.setIfInBounds_toArray, List.set_cons_zero, List.set_cons_succ]
                refine wpAnyG_last (o := ⟨none, _, _, _, _, _⟩) (by kernel_rfl) rfl (fun K hK => ?_)
                go_simp
                refine hK.out _ _ ?_
                clear hK K
                try simp only [Act.put, List.setIfInBounds_toArray, List.set_cons_zero, List.set_cons_succ]
                refine wpAnyG_done (by kernel_rfl) ?_ _
                go_wp2_with fail
                go_ret
                exact ⟨rfl, by rw [HI9.out]; exact radd_end_nil HT4.out HB4.out HT6.out HB6.out HO6.out⟩
            · go_simp
              refine hK.out _ _ (by go_keep) (fun hHeld => ?_)
              clear hK K
              try simp only [Act.put, List.setIfInBounds_toArray, List.set_cons_zero, List.set_cons_succ]
              refine wpAnyG_one (i := 1) (o := ⟨some 70, _, _, _, _, _⟩) (by kernel_rfl) rfl (by decide) (fun K hK => ?_)
              go_simp
              refine hK.out _ _ (by go_keep) (fun hHeld => ?_)
              clear hK K
              try simp only [Act.put, List.setIfInBounds_toArray, List.set_cons_zero, List.set_cons_succ]
              refine wpAnyG_one (i := 8) (o := ⟨some 77, _, _, _, _, _⟩) (by kernel_rfl) rfl (by decide) (fun K hK => ?_)
              refine step_append_nil _ rfl _ _ 80 rfl 84 i0 2 Tryd.underlying80 hi hz1 w4.heap.size _ 0 [] (by rfl) (HEc.out) 0 (by rfl) ?_
              have HO5 := Lib.hid (HEc.out)
              have HB5 := Lib.hid (HBc.out)
              have HX5 := Lib.hid (cells_of_blk HXc.out)
              refine hK.out _ _ (hHeld) (fun hHeld => ?_)
              clear hK K
              try simp only [Act.put, List.setIfInBounds_toArray, List.set_cons_zero, List.set_cons_succ]
              refine wpAnyG_one (i := 13) (o := ⟨some 82, _, _, _, _, _⟩) (by kernel_rfl) rfl (by decide) (fun K hK => ?_)
              refine step_append_at _ rfl _ _ 80 rfl w4.heap.size 84 i0 _ 2 16 Tryd.underlying80 hi hz0 hz1 hz2 rfl (by decide) _ 0 [] (by rfl) (HO5.out) ⟨w4.heap.size, 0, none⟩ 1 1 _ (by rfl) rfl (HX5.out) HXO.out (by unfold maxLen; omega) (by omega) (HB5.out.size) ?_
              intro v6 w6 hown6 hgrow6
              obtain ⟨a6, c6, rfl⟩ := own_shape hown6
              have HB6 := Lib.hid ((HB5.out).trans (below_grown (B := w4.heap.size) hgrow6 (HB5.out.size) (fun q hq => ((HO5.out).lt q hq).1)))
              have HT6 := Lib.hid (HT4.out.below HB6.out)
              have k6 := HT6.out.c0.2
              have HO6 := Lib.hid hown6
              clear hown6 hgrow6
              refine hK.out _ _ (k6) (fun hHeld => ?_)
              clear hK K
              try simp only [Act.put, List.setIfInBounds_toArray, List.set_cons_zero, List.set_cons_succ]
              refine wpAnyG_one (i := 20) (o := ⟨some 89, _, _, _, _, _⟩) (by kernel_rfl) rfl (by decide) (fun K hK => ?_)
              refine step_append_nil _ rfl _ _ 80 rfl 84 i0 2 Tryd.underlying80 hi hz1 w4.heap.size _ _ _ (by rfl) HO6.out 0 (by rfl) ?_
              have hfr6 := HT6.out.t.free 1
              refine hK.out _ _ (hHeld) (fun hHeld => ?_)
              clear hK K
              try simp only [Act.put, List.setIfInBounds_toArray, List.set_cons_zero, List.set_cons_succ]
              refine wpAnyG_one (i := 21) (o := ⟨some 90, _, _, _, _, _⟩) (by kernel_rfl) rfl (by decide) (fun K hK => ?_)
              go_simp
              refine hK.out _ _ (hHeld) (fun hHeld => ?_)
              clear hK K
              try simp only [Act.put, List.setIfInBounds_toArray, List.set_cons_zero, List.set_cons_succ]
              refine wpAnyG_one (i := 22) (o := ⟨some 91, _, _, _, _, _⟩) (by kernel_rfl) rfl (by decide) (fun K hK => ?_)
              go_simp
              refine hK.out _ _ (hHeld) (fun hHeld => ?_)
              clear hK K
              try simp only [Act.put, List.setIfInBounds_toArray, List.set_cons_zero, List.set_cons_succ]
              refine wpAnyG_last (o := ⟨none, _, _, _, _, _⟩) (by kernel_rfl) rfl (fun K hK => ?_)
              go_simp
              refine hK.out _ _ ?_
              clear hK K
              try simp only [Act.put, List.setIfInBounds_toArray, List.set_cons_zero, List.set_cons_succ]
              refine wpAnyG_done (by kernel_rfl) ?_ _
              go_wp2_with fail
              go_ret
              exact ⟨rfl, by rw [HI9.out]; exact radd_end_nil HT4.out HB4.out HT6.out HB6.out HO6.out⟩
          | some ad =>
            obtain ⟨e, -⟩ := HOW.out ad.block rfl
            cases e
            obtain ⟨k, hk2⟩ : ∃ k, l.length = i + k := ⟨l.length - i, by omega⟩
            have HK := Lib.hid hk2
            have HSa := Lib.hid (show ∀ q u, ((flat Mis.cells l).take (i * 2))[q]? = some u → (w4.drew.alloc (.cells #[] 84)).cell? ((⟨g, 0, none⟩ : Addr).add q) = some u from fun q u hq => by
              rw [List.getElem?_take] at hq
              split at hq
              · exact (HT4.out.below HBa.out).row.cells (g := g) rfl q u hq
              · cases hq)
            have HSb := Lib.hid (show ∀ q u, ((flat Mis.cells l).take (i * 2))[q]? = some u → ((w4.drew.alloc (.cells #[] 84)).alloc (.cells #[.int .i64 line, .int .i64 kind] 84)).cell? ((⟨g, 0, none⟩ : Addr).add q) = some u from fun q u hq => by
              rw [List.getElem?_take] at hq
              split at hq
              · exact (HT4.out.below HBb.out).row.cells (g := g) rfl q u hq
              · cases hq)
            have HSc := Lib.hid (show ∀ q u, ((flat Mis.cells l).take (i * 2))[q]? = some u → ((w4.drew.alloc (.cells #[.int .i64 line, .int .i64 kind] 84)).alloc (.cells #[] 84)).cell? ((⟨g, 0, none⟩ : Addr).add q) = some u from fun q u hq => by
              rw [List.getElem?_take] at hq
              split at hq
              · exact (HT4.out.below HBc.out).row.cells (g := g) rfl q u hq
              · cases hq)
            have HL1 := Lib.hid (show ((flat Mis.cells l).take (i * 2)).length = i * 2 by rw [List.length_take, hfl]; omega)
            have H11 := Lib.hid (show ∀ u ∈ (flat Mis.cells l).take (i * 2), u.oneCell' = true from fun u hu => mis_one l u (List.mem_of_mem_take hu))
            have HL2 := Lib.hid (show ((flat Mis.cells l).drop (i * 2)).length = k * 2 by rw [List.length_drop, hfl]; omega)
            have H12 := Lib.hid (show ∀ u ∈ (flat Mis.cells l).drop (i * 2), u.oneCell' = true from fun u hu => mis_one l u (List.mem_of_mem_drop hu))
            obtain ⟨A, hA, hnews⟩ : ∃ A : Addr, (if c = i then some (⟨g, 0, none⟩ : Addr) else some ⟨g, i * 2, none⟩) = some A ∧ Hid (∀ (W : World), W.ownsRow B 84 2 (.slice (some ⟨g, 0, none⟩) l.length c) l.length (flat Mis.cells l) → ∀ q u, ((flat Mis.cells l).drop (i * 2))[q]? = some u → W.cell? (A.add q) = some u) := by
              by_cases h : c = i
              · refine ⟨⟨g, 0, none⟩, by simp [h], fun W hW q u hu => ?_⟩
                have h0 := HL2.out
                rw [show k = 0 by omega, Nat.zero_mul] at h0
                rw [List.length_eq_zero_iff.1 h0] at hu
                simp at hu
              · refine ⟨⟨g, i * 2, none⟩, by simp [h], fun W hW q u hu => ?_⟩
                rw [List.getElem?_drop] at hu
                rw [at_add]
                have := hW.cells (g := g) rfl _ _ hu
                rw [add_zero_at] at this
                exact this
            have hjc : i ≤ c := by omega
            have hp1 : (i : Int) ≤ (i : Int) + (k : Int) := by omega
            clear hfl
            rw [hk2] at k1 ⊢
            go_upto_region 14 with (fail)
            refine wp_region_G (S := fun W => W.cell? ⟨T, 1, none⟩ = some (.slice (some ⟨g, 0, none⟩) (i + k) c)) (f := 23) (by kernel_rfl) k1 (fun hHeld => ?_)
            refine wpAnyG_take (i := 0) (oi := ⟨some 69, _, _, _, _, _⟩) (v := ?_) rfl (by kernel_rfl) (by kernel_rfl) (by kernel_rfl) (by kernel_rfl) (fun _ _ _ h => h) (Or.inl ⟨by kernel_rfl, ?_⟩) (by assumption) ?_
            rotate_left
            · ((intro W hSw; (try dsimp only at hSw); go_simp) <;> with_reducible rfl)
            try simp only [Act.put, List.setIfInBounds_toArray, List.set_cons_zero, List.set_cons_succ]
            refine wpAnyG_take (i := 2) (oi := ⟨some 71, _, _, _, _, _⟩) (v := ?_) rfl (by kernel_rfl) (by kernel_rfl) (by kernel_rfl) (by kernel_rfl) (fun _ _ _ h => h) (Or.inl ⟨by kernel_rfl, ?_⟩) (by assumption) ?_
            rotate_left
            · ((intro W hSw; (try dsimp only at hSw); go_simp) <;> with_reducible rfl)
            try simp only [Act.put, List.setIfInBounds_toArray, List.set_cons_zero, List.set_cons_succ]
            refine wpAnyG_take (i := 3) (oi := ⟨some 72, _, _, _, _, _⟩) (v := ?_) rfl (by kernel_rfl) (by kernel_rfl) (by kernel_rfl) (by kernel_rfl) (fun _ _ _ h => h) (Or.inl ⟨by kernel_rfl, ?_⟩) (by assumption) ?_
            rotate_left
            · ((intro W hSw; (try dsimp only at hSw); go_simp) <;> with_reducible rfl)
            try simp only [Act.put, List.setIfInBounds_toArray, List.set_cons_zero, List.set_cons_succ]
            refine wpAnyG_take (i := 4) (oi := ⟨some 73, _, _, _, _, _⟩) (v := ?_) rfl (by kernel_rfl) (by kernel_rfl) (by kernel_rfl) (by kernel_rfl) (fun _ _ _ h => h) (Or.inl ⟨by kernel_rfl, ?_⟩) (by assumption) ?_
            rotate_left
            · ((intro W hSw; (try dsimp only at hSw); go_simp) <;> with_reducible rfl)
            try simp only [Act.put, List.setIfInBounds_toArray, List.set_cons_zero, List.set_cons_succ]
            refine wpAnyG_take (i := 5) (oi := ⟨some 74, _, _, _, _, _⟩) (v := ?_) rfl (by kernel_rfl) (by kernel_rfl) (by kernel_rfl) (by kernel_rfl) (fun _ _ _ h => h) (Or.inl ⟨by kernel_rfl, ?_⟩) (by assumption) ?_
            rotate_left
            · ((intro W hSw; (try dsimp only at hSw); go_simp) <;> with_reducible rfl)
            try simp only [Act.put, List.setIfInBounds_toArray, List.set_cons_zero, List.set_cons_succ]
            refine wpAnyG_take (i := 6) (oi := ⟨some 75, _, _, _, _, _⟩) (v := ?_) rfl (by kernel_rfl) (by kernel_rfl) (by kernel_rfl) (by kernel_rfl) (fun _ _ _ h => h) (Or.inl ⟨by kernel_rfl, ?_⟩) (by assumption) ?_
            rotate_left
            · ((intro W hSw; (try dsimp only at hSw); go_simp) <;> with_reducible rfl)
            try simp only [Act.put, List.setIfInBounds_toArray, List.set_cons_zero, List.set_cons_succ]
            refine wpAnyG_take (i := 7) (oi := ⟨some 76, _, _, _, _, _⟩) (v := ?_) rfl (by kernel_rfl) (by kernel_rfl) (by kernel_rfl) (by kernel_rfl) (fun _ _ _ h => h) (Or.inl ⟨by kernel_rfl, ?_⟩) (by assumption) ?_
            rotate_left
            · ((intro W hSw; (try dsimp only at hSw); go_simp) <;> with_reducible rfl)
            try simp only [Act.put, List.setIfInBounds_toArray, List.set_cons_zero, List.set_cons_succ]
            refine wpAnyG_take (i := 9) (oi := ⟨some 78, _, _, _, _, _⟩) (v := ?_) rfl (by kernel_rfl) (by kernel_rfl) (by kernel_rfl) (by kernel_rfl) (fun _ _ _ h => h) (Or.inl ⟨by kernel_rfl, ?_⟩) (by assumption) ?_
            rotate_left
            · ((intro W hSw; (try dsimp only at hSw); go_simp) <;> with_reducible rfl)
            try simp only [Act.put, List.setIfInBounds_toArray, List.set_cons_zero, List.set_cons_succ]
            refine wpAnyG_take (i := 10) (oi := ⟨some 79, _, _, _, _, _⟩) (v := ?_) rfl (by kernel_rfl) (by kernel_rfl) (by kernel_rfl) (by kernel_rfl) (fun _ _ _ h => h) (Or.inl ⟨by kernel_rfl, ?_⟩) (by assumption) ?_
            rotate_left
            · ((intro W hSw; (try dsimp only at hSw); go_simp) <;> with_reducible rfl)
            try simp only [Act.put, List.setIfInBounds_toArray, List.set_cons_zero, List.set_cons_succ]
            refine wpAnyG_take (i := 11) (oi := ⟨some 80, _, _, _, _, _⟩) (v := ?_) rfl (by kernel_rfl) (by kernel_rfl) (by kernel_rfl) (by kernel_rfl) (fun _ _ _ h => h) (Or.inl ⟨by kernel_rfl, ?_⟩) (by assumption) ?_
            rotate_left
            · ((intro W hSw; (try dsimp only at hSw); go_simp) <;> with_reducible rfl)
            try simp only [Act.put, List.setIfInBounds_toArray, List.set_cons_zero, List.set_cons_succ]
            refine wpAnyG_take (i := 14) (oi := ⟨some 83, _, _, _, _, _⟩) (v := ?_) rfl (by kernel_rfl) (by kernel_rfl) (by kernel_rfl) (by kernel_rfl) (fun _ _ _ h => h) (Or.inl ⟨by kernel_rfl, ?_⟩) (by assumption) ?_
            rotate_left
            · ((intro W hSw; (try dsimp only at hSw); go_simp) <;> with_reducible rfl)
            try simp only [Act.put, List.setIfInBounds_toArray, List.set_cons_zero, List.set_cons_succ]
            refine wpAnyG_take (i := 15) (oi := ⟨some 84, _, _, _, _, _⟩) (v := ?_) rfl (by kernel_rfl) (by kernel_rfl) (by kernel_rfl) (by kernel_rfl) (fun _ _ _ h => h) (Or.inl ⟨by kernel_rfl, ?_⟩) (by assumption) ?_
            rotate_left
            · ((intro W hSw; (try dsimp only at hSw); go_simp) <;> with_reducible rfl)
            try simp only [Act.put, List.setIfInBounds_toArray, List.set_cons_zero, List.set_cons_succ]
            refine wpAnyG_take (i := 16) (oi := ⟨some 85, _, _, _, _, _⟩) (v := ?_) rfl (by kernel_rfl) (by kernel_rfl) (by kernel_rfl) (by kernel_rfl) (fun _ _ _ h => h) (Or.inl ⟨by kernel_rfl, ?_⟩) (by assumption) ?_
            rotate_left
            · ((intro W hSw; (try dsimp only at hSw); go_simp) <;> with_reducible rfl)
            try simp only [Act.put, List.setIfInBounds_toArray, List.set_cons_zero, List.set_cons_succ]
            refine wpAnyG_take (i := 17) (oi := ⟨some 86, _, _, _, _, _⟩) (v := ?_) rfl (by kernel_rfl) (by kernel_rfl) (by kernel_rfl) (by kernel_rfl) (fun _ _ _ h => h) (Or.inl ⟨by kernel_rfl, ?_⟩) (by assumption) ?_
            rotate_left
            · ((intro W hSw; (try dsimp only at hSw); go_simp) <;> with_reducible rfl)
            try simp only [Act.put, List.setIfInBounds_toArray, List.set_cons_zero, List.set_cons_succ]
            refine wpAnyG_take (i := 18) (oi := ⟨some 87, _, _, _, _, _⟩) (v := ?_) rfl (by kernel_rfl) (by kernel_rfl) (by kernel_rfl) (by kernel_rfl) (fun _ _ _ h => h) (Or.inl ⟨by kernel_rfl, ?_⟩) (by assumption) ?_
            rotate_left
            · ((intro W hSw; (try dsimp only at hSw); go_simp) <;> with_reducible rfl)
            try simp only [Act.put, List.setIfInBounds_toArray, List.set_cons_zero, List.set_cons_succ]
            refine wpAnyG_take (i := 19) (oi := ⟨some 88, _, _, _, _, _⟩) (v := ?_) rfl (by kernel_rfl) (by kernel_rfl) (by kernel_rfl) (by kernel_rfl) (fun _ _ _ h => h) (Or.inl ⟨by kernel_rfl, ?_⟩) (by assumption) ?_
            rotate_left
            · ((intro W hSw; (try dsimp only at hSw); go_simp) <;> with_reducible rfl)
            try simp only [Act.put, List.setIfInBounds_toArray, List.set_cons_zero, List.set_cons_succ]
            refine wpAnyG_two (i := 1) (j := 12) (o := ⟨some 70, _, _, _, _, _⟩) (o' := ⟨some 81, _, _, _, _, _⟩) (by kernel_rfl) rfl rfl (by decide) (by decide) (fun K hK => ?_) (fun K hK => ?_)
            · go_simp
              refine hK.out _ _ (by go_keep) (fun hHeld => ?_)
              clear hK K
              try simp only [Act.put, List.setIfInBounds_toArray, List.set_cons_zero, List.set_cons_succ]
              refine wpAnyG_two (i := 8) (j := 12) (o := ⟨some 77, _, _, _, _, _⟩) (o' := ⟨some 81, _, _, _, _, _⟩) (by kernel_rfl) rfl rfl (by decide) (by decide) (fun K hK => ?_) (fun K hK => ?_)
              · refine step_append_at _ rfl _ _ 80 rfl w4.heap.size 84 i0 _ 2 16 Tryd.underlying80 hi hz0 hz1 hz2 rfl (by decide) _ 0 [] (by rfl) (HEa.out) ⟨g, 0, none⟩ i c _ (by rfl) HL1.out (HSa.out) H11.out (by unfold maxLen; omega) (by omega) (by first | (simp; done) | (simp; omega)) ?_
                intro v5 w5 hown5 hgrow5
                rw [Nat.zero_add] at hown5
                obtain ⟨a5, c5, rfl⟩ := own_shape hown5
                have HB5 := Lib.hid ((HBa.out).trans (below_grown (B := w4.heap.size) hgrow5 (by first | (simp; done) | (simp; omega)) (fun q hq => by simp [Value.ownBlock] at hq; omega)))
                have HT5 := Lib.hid (HT4.out.below HB5.out)
                have k5 := HT5.out.c0.2
                rw [HK.out] at k5
                have HO5 := Lib.hid hown5
                clear hown5 hgrow5
                refine hK.out _ _ (k5) (fun hHeld => ?_)
                clear hK K
                try simp only [Act.put, List.setIfInBounds_toArray, List.set_cons_zero, List.set_cons_succ]
                refine wpAnyG_one (i := 12) (o := ⟨some 81, _, _, _, _, _⟩) (by kernel_rfl) rfl (by decide) (fun K hK => ?_)
                go_simp
                refine hK.out _ _ (by go_keep) (fun hHeld => ?_)
                clear hK K
                try simp only [Act.put, List.setIfInBounds_toArray, List.set_cons_zero, List.set_cons_succ]
                refine wpAnyG_one (i := 13) (o := ⟨some 82, _, _, _, _, _⟩) (by kernel_rfl) rfl (by decide) (fun K hK => ?_)
                refine step_append_at _ rfl _ _ 80 rfl w4.heap.size 84 i0 _ 2 16 Tryd.underlying80 hi hz0 hz1 hz2 rfl (by decide) _ i _ (by rfl) (HO5.out.alloc (.cells #[.int .i64 line, .int .i64 kind] 84)) ⟨w5.heap.size, 0, none⟩ 1 1 _ (by rfl) rfl (mis_news w5 _ ⟨line, kind⟩ rfl) HXO.out (by unfold maxLen; omega) (by omega) (by have := HB5.out.size; simp; omega) ?_
                intro v6 w6 hown6 hgrow6
                obtain ⟨a6, c6, rfl⟩ := own_shape hown6
                have HB6 := Lib.hid ((HB5.out.alloc HB5.out.size (.cells #[.int .i64 line, .int .i64 kind] 84)).trans (below_grown (B := w4.heap.size) hgrow6 (by have := HB5.out.size; simp; omega) (fun q hq => ((HO5.out.alloc (.cells #[.int .i64 line, .int .i64 kind] 84)).lt q hq).1)))
                have HT6 := Lib.hid (HT4.out.below HB6.out)
                have k6 := HT6.out.c0.2
                rw [HK.out] at k6
                have HO6 := Lib.hid hown6
                clear hown6 hgrow6
                refine hK.out _ _ (k6) (fun hHeld => ?_)
                clear hK K
                try simp only [Act.put, List.setIfInBounds_toArray, List.set_cons_zero, List.set_cons_succ]
                refine wpAnyG_one (i := 20) (o := ⟨some 89, _, _, _, _, _⟩) (by kernel_rfl) rfl (by decide) (fun K hK => ?_)
                refine step_append_at _ rfl _ _ 80 rfl w4.heap.size 84 i0 _ 2 16 Tryd.underlying80 hi hz0 hz1 hz2 rfl (by decide) _ _ _ (by rfl) HO6.out A k (c - i) _ (by rfl) HL2.out (hnews.out _ HT6.out.row) H12.out (by unfold maxLen; omega) (by omega) (by exact HB6.out.size) ?_
                intro v7 w7 hown7 hgrow7
                obtain ⟨a7, c7, rfl⟩ := own_shape hown7
                have HB7 := Lib.hid (HB6.out.trans (below_grown (B := w4.heap.size) hgrow7 HB6.out.size (fun q hq => (HO6.out.lt q hq).1)))
                have HT7 := Lib.hid (HT4.out.below HB7.out)
                have k7 := HT7.out.c0.2
                rw [HK.out] at k7
                have hfr7 := HT7.out.t.free 1
                have HO7 := Lib.hid hown7
                clear hown7 hgrow7
                refine hK.out _ _ (k7) (fun hHeld => ?_)
                clear hK K
                try simp only [Act.put, List.setIfInBounds_toArray, List.set_cons_zero, List.set_cons_succ]
                refine wpAnyG_one (i := 21) (o := ⟨some 90, _, _, _, _, _⟩) (by kernel_rfl) rfl (by decide) (fun K hK => ?_)
                go_simp
                refine hK.out _ _ (hHeld) (fun hHeld => ?_)
                clear hK K
                try simp only [Act.put, List.setIfInBounds_toArray, List.set_cons_zero, List.set_cons_succ]
                refine wpAnyG_one (i := 22) (o := ⟨some 91, _, _, _, _, _⟩) (by kernel_rfl) rfl (by decide) (fun K hK => ?_)
                go_simp
                refine hK.out _ _ (hHeld) (fun hHeld => ?_)
                clear hK K
                try simp only [Act.put, List.setIfInBounds_toArray, List.set_cons_zero, List.set_cons_succ]
                refine wpAnyG_last (o := ⟨none, _, _, _, _, _⟩) (by kernel_rfl) rfl (fun K hK => ?_)
                go_simp
                refine hK.out _ _ ?_
                clear hK K
                try simp only [Act.put, List.setIfInBounds_toArray, List.set_cons_zero, List.set_cons_succ]
                refine wpAnyG_done (by kernel_rfl) ?_ _
                go_wp2_with fail
                go_ret
                exact ⟨rfl, by rw [HI9.out]; have he := radd_end HT4.out HB4.out HT7.out HB7.out hil HK.out HO7.out; rw [HK.out] at he; exact he⟩
              · go_simp
                refine hK.out _ _ (by go_keep) (fun hHeld => ?_)
                clear hK K
                try simp only [Act.put, List.setIfInBounds_toArray, List.set_cons_zero, List.set_cons_succ]
                refine wpAnyG_one (i := 8) (o := ⟨some 77, _, _, _, _, _⟩) (by kernel_rfl) rfl (by decide) (fun K hK => ?_)
                refine step_append_at _ rfl _ _ 80 rfl w4.heap.size 84 i0 _ 2 16 Tryd.underlying80 hi hz0 hz1 hz2 rfl (by decide) _ 0 [] (by rfl) (HEb.out) ⟨g, 0, none⟩ i c _ (by rfl) HL1.out (HSb.out) H11.out (by unfold maxLen; omega) (by omega) (by first | (simp; done) | (simp; omega)) ?_
                intro v5 w5 hown5 hgrow5
                rw [Nat.zero_add] at hown5
                obtain ⟨a5, c5, rfl⟩ := own_shape hown5
                have HB5 := Lib.hid ((HBb.out).trans (below_grown (B := w4.heap.size) hgrow5 (by first | (simp; done) | (simp; omega)) (fun q hq => by simp [Value.ownBlock] at hq; omega)))
                have HT5 := Lib.hid (HT4.out.below HB5.out)
                have k5 := HT5.out.c0.2
                rw [HK.out] at k5
                have HO5 := Lib.hid hown5
                have HX5 := Lib.hid (cells_of_blk (HXb.out.grown' hgrow5 (by simp [Value.ownBlock])))
                clear hown5 hgrow5
                refine hK.out _ _ (k5) (fun hHeld => ?_)
                clear hK K
                try simp only [Act.put, List.setIfInBounds_toArray, List.set_cons_zero, List.set_cons_succ]
                refine wpAnyG_one (i := 13) (o := ⟨some 82, _, _, _, _, _⟩) (by kernel_rfl) rfl (by decide) (fun K hK => ?_)
                refine step_append_at _ rfl _ _ 80 rfl w4.heap.size 84 i0 _ 2 16 Tryd.underlying80 hi hz0 hz1 hz2 rfl (by decide) _ i _ (by rfl) (HO5.out) ⟨w4.heap.size + 1, 0, none⟩ 1 1 _ (by rfl) rfl (HX5.out) HXO.out (by unfold maxLen; omega) (by omega) (HB5.out.size) ?_
                intro v6 w6 hown6 hgrow6
                obtain ⟨a6, c6, rfl⟩ := own_shape hown6
                have HB6 := Lib.hid ((HB5.out).trans (below_grown (B := w4.heap.size) hgrow6 (HB5.out.size) (fun q hq => ((HO5.out).lt q hq).1)))
                have HT6 := Lib.hid (HT4.out.below HB6.out)
                have k6 := HT6.out.c0.2
                rw [HK.out] at k6
                have HO6 := Lib.hid hown6
                clear hown6 hgrow6
                refine hK.out _ _ (k6) (fun hHeld => ?_)
                clear hK K
                try simp only [Act.put, List.setIfInBounds_toArray, List.set_cons_zero, List.set_cons_succ]
                refine wpAnyG_one (i := 20) (o := ⟨some 89, _, _, _, _, _⟩) (by kernel_rfl) rfl (by decide) (fun K hK => ?_)
                refine step_append_at _ rfl _ _ 80 rfl w4.heap.size 84 i0 _ 2 16 Tryd.underlying80 hi hz0 hz1 hz2 rfl (by decide) _ _ _ (by rfl) HO6.out A k (c - i) _ (by rfl) HL2.out (hnews.out _ HT6.out.row) H12.out (by unfold maxLen; omega) (by omega) (by exact HB6.out.size) ?_
                intro v7 w7 hown7 hgrow7
                obtain ⟨a7, c7, rfl⟩ := own_shape hown7
                have HB7 := Lib.hid (HB6.out.trans (below_grown (B := w4.heap.size) hgrow7 HB6.out.size (fun q hq => (HO6.out.lt q hq).1)))
                have HT7 := Lib.hid (HT4.out.below HB7.out)
                have k7 := HT7.out.c0.2
                rw [HK.out] at k7
                have hfr7 := HT7.out.t.free 1
                have HO7 := Lib.hid hown7
                clear hown7 hgrow7
                refine hK.out _ _ (k7) (fun hHeld => ?_)
                clear hK K
                try simp only [Act.put, List.setIfInBounds_toArray, List.set_cons_zero, List.set_cons_succ]
                refine wpAnyG_one (i := 21) (o := ⟨some 90, _, _, _, _, _⟩) (by kernel_rfl) rfl (by decide) (fun K hK => ?_)
                go_simp
                refine hK.out _ _ (hHeld) (fun hHeld => ?_)
                clear hK K
                try simp only [Act.put, List.setIfInBounds_toArray, List.set_cons_zero, List.set_cons_succ]
                refine wpAnyG_one (i := 22) (o := ⟨some 91, _, _, _, _, _⟩) (by kernel_rfl) rfl (by decide) (fun K hK => ?_)
                go_simp
                refine hK.out _ _ (hHeld) (fun hHeld => ?_)
                clear hK K
                try simp only [Act.put, List.setIfInBounds_toArray, List.set_cons_zero, List.set_cons_succ]
                refine wpAnyG_last (o := ⟨none, _, _, _, _, _⟩) (by kernel_rfl) rfl (fun K hK => ?_)
                go_simp
                refine hK.out _ _ ?_
                clear hK K
                try simp only [Act.put, List.setIfInBounds_toArray, List.set_cons_zero, List.set_cons_succ]
                refine wpAnyG_done (by kernel_rfl) ?_ _
                go_wp2_with fail
                go_ret
                exact ⟨rfl, by rw [HI9.out]; have he := radd_end HT4.out HB4.out HT7.out HB7.out hil HK.out HO7.out; rw [HK.out] at he; exact he⟩
            · go_simp
              refine hK.out _ _ (by go_keep) (fun hHeld => ?_)
              clear hK K
              try simp only [Act.put, List.setIfInBounds_toArray, List.set_cons_zero, List.set_cons_succ]
              refine wpAnyG_one (i := 1) (o := ⟨some 70, _, _, _, _, _⟩) (by kernel_rfl) rfl (by decide) (fun K hK => ?_)
              go_simp
              refine hK.out _ _ (by go_keep) (fun hHeld => ?_)
              clear hK K
              try simp only [Act.put, List.setIfInBounds_toArray, List.set_cons_zero, List.set_cons_succ]
              refine wpAnyG_one (i := 8) (o := ⟨some 77, _, _, _, _, _⟩) (by kernel_rfl) rfl (by decide) (fun K hK => ?_)
              refine step_append_at _ rfl _ _ 80 rfl w4.heap.size 84 i0 _ 2 16 Tryd.underlying80 hi hz0 hz1 hz2 rfl (by decide) _ 0 [] (by rfl) (HEc.out) ⟨g, 0, none⟩ i c _ (by rfl) HL1.out (HSc.out) H11.out (by unfold maxLen; omega) (by omega) (by first | (simp; done) | (simp; omega)) ?_
              intro v5 w5 hown5 hgrow5
              rw [Nat.zero_add] at hown5
              obtain ⟨a5, c5, rfl⟩ := own_shape hown5
              have HB5 := Lib.hid ((HBc.out).trans (below_grown (B := w4.heap.size) hgrow5 (by first | (simp; done) | (simp; omega)) (fun q hq => by simp [Value.ownBlock] at hq; omega)))
              have HT5 := Lib.hid (HT4.out.below HB5.out)
              have k5 := HT5.out.c0.2
              rw [HK.out] at k5
              have HO5 := Lib.hid hown5
              have HX5 := Lib.hid (cells_of_blk (HXc.out.grown' hgrow5 (by simp [Value.ownBlock])))
              clear hown5 hgrow5
              refine hK.out _ _ (k5) (fun hHeld => ?_)
              clear hK K
              try simp only [Act.put, List.setIfInBounds_toArray, List.set_cons_zero, List.set_cons_succ]
              refine wpAnyG_one (i := 13) (o := ⟨some 82, _, _, _, _, _⟩) (by kernel_rfl) rfl (by decide) (fun K hK => ?_)
              refine step_append_at _ rfl _ _ 80 rfl w4.heap.size 84 i0 _ 2 16 Tryd.underlying80 hi hz0 hz1 hz2 rfl (by decide) _ i _ (by rfl) (HO5.out) ⟨w4.heap.size, 0, none⟩ 1 1 _ (by rfl) rfl (HX5.out) HXO.out (by unfold maxLen; omega) (by omega) (HB5.out.size) ?_
              intro v6 w6 hown6 hgrow6
              obtain ⟨a6, c6, rfl⟩ := own_shape hown6
              have HB6 := Lib.hid ((HB5.out).trans (below_grown (B := w4.heap.size) hgrow6 (HB5.out.size) (fun q hq => ((HO5.out).lt q hq).1)))
              have HT6 := Lib.hid (HT4.out.below HB6.out)
              have k6 := HT6.out.c0.2
              rw [HK.out] at k6
              have HO6 := Lib.hid hown6
              clear hown6 hgrow6
              refine hK.out _ _ (k6) (fun hHeld => ?_)
              clear hK K
              try simp only [Act.put, List.setIfInBounds_toArray, List.set_cons_zero, List.set_cons_succ]
              refine wpAnyG_one (i := 20) (o := ⟨some 89, _, _, _, _, _⟩) (by kernel_rfl) rfl (by decide) (fun K hK => ?_)
              refine step_append_at _ rfl _ _ 80 rfl w4.heap.size 84 i0 _ 2 16 Tryd.underlying80 hi hz0 hz1 hz2 rfl (by decide) _ _ _ (by rfl) HO6.out A k (c - i) _ (by rfl) HL2.out (hnews.out _ HT6.out.row) H12.out (by unfold maxLen; omega) (by omega) (by exact HB6.out.size) ?_
              intro v7 w7 hown7 hgrow7
              obtain ⟨a7, c7, rfl⟩ := own_shape hown7
              have HB7 := Lib.hid (HB6.out.trans (below_grown (B := w4.heap.size) hgrow7 HB6.out.size (fun q hq => (HO6.out.lt q hq).1)))
              have HT7 := Lib.hid (HT4.out.below HB7.out)
              have k7 := HT7.out.c0.2
              rw [HK.out] at k7
              have hfr7 := HT7.out.t.free 1
              have HO7 := Lib.hid hown7
              clear hown7 hgrow7
              refine hK.out _ _ (k7) (fun hHeld => ?_)
              clear hK K
              try simp only [Act.put, List.setIfInBounds_toArray, List.set_cons_zero, List.set_cons_succ]
              refine wpAnyG_one (i := 21) (o := ⟨some 90, _, _, _, _, _⟩) (by kernel_rfl) rfl (by decide) (fun K hK => ?_)
              go_simp
              refine hK.out _ _ (hHeld) (fun hHeld => ?_)
              clear hK K
              try simp only [Act.put, List.setIfInBounds_toArray, List.set_cons_zero, List.set_cons_succ]
              refine wpAnyG_one (i := 22) (o := ⟨some 91, _, _, _, _, _⟩) (by kernel_rfl) rfl (by decide) (fun K hK => ?_)
              go_simp
              refine hK.out _ _ (hHeld) (fun hHeld => ?_)
              clear hK K
              try simp only [Act.put, List.setIfInBounds_toArray, List.set_cons_zero, List.set_cons_succ]
              refine wpAnyG_last (o := ⟨none, _, _, _, _, _⟩) (by kernel_rfl) rfl (fun K hK => ?_)
              go_simp
              refine hK.out _ _ ?_
              clear hK K
              try simp only [Act.put, List.setIfInBounds_toArray, List.set_cons_zero, List.set_cons_succ]
              refine wpAnyG_done (by kernel_rfl) ?_ _
              go_wp2_with fail
              go_ret
              exact ⟨rfl, by rw [HI9.out]; have he := radd_end HT4.out HB4.out HT7.out HB7.out hil HK.out HO7.out; rw [HK.out] at he; exact he⟩

theorem RAdd_any' (h : TabAt w T B 82 84 most v l) (hl : l.length ≤ 8) (line kind : Int) :
    Calls Tryd.prog 29 #[.pointer (some ⟨T, 0, none⟩), .int .i64 line, .int .i64 kind] w fun r w' => r = .returned (.int .i64 ((mAdd most l line kind).1 : Nat)) ∧ ∃ v', TabStep w w' T B 82 84 most v v' (mAdd most l line kind).2 := by
  by_cases hb : badMis line kind
  · have e : mAdd most l line kind = (1, l) := by unfold mAdd; rw [if_pos hb]
    rw [e]
    refine (RAdd_bad line kind hb).mono ?_
    rintro r w' ⟨rfl, rfl⟩
    exact ⟨rfl, v, .same h (Below.refl _ _)⟩
  · exact RAdd_good h hl line kind hb
end Go.Proofs.YtjmlficbnljiaaaDoor
