/- The law ArrayPlays: for every number of sets and ways and every list of asks the law returns true, and the arguments read behind the call as before. -/
import Derived.Test.YtjmlficbnljiaaaDoorPlaysAll
import Derived.Test.YtjmlficbnljiaaaDoorKeepsRow
namespace Go.Proofs.YtjmlficbnljiaaaDoor
open Go.ChangeShapes Go.WideShapes Go.ChangeAt Go.RowKit

section
variable {H : Type} {enc : TypeId × Value → H} {w : World} {base : Nat} {sp : Nat → Bool} {held : Bool}

/-- A slice of numbers, out of its reading. -/
def PinOk (w : World) (v : Value) : Prop := ∃ (a : Option Addr) (b o c : Nat) (z : List Int), v = .slice a z.length c ∧ IntsAt w a b o z ∧ z.length ≤ c ∧ c ≤ maxLen

theorem pin_of_trod {n : Nat} {v : Value} {x : DataW H × List MemPlace} (h : DataW.trod enc Tryd.prog w base sp held n 35 [v] = some x) : PinOk w v := by
  rcases Go.Deep.open_slice Tryd.underlying35 h with ⟨e, -⟩ | ⟨a', len', cap', m, n, D, Pl, e, hb, hle, hm, hmm, -, hx⟩
  · simp only [List.cons.injEq, and_true] at e
    exact ⟨none, 0, 0, 0, [], e, ⟨fun h => absurd rfl h, fun i q hq => by simp at hq, fun h => absurd rfl h⟩, Nat.le_refl _, Nat.zero_le _⟩
  · simp only [List.cons.injEq, and_true] at e
    have hlm : len' ≤ m := by rw [hmm]; split <;> omega
    have hq : ∀ i, i < len' → ∃ z : Int, w.cell? (a'.add i) = some (.int .i64 z) := by
      intro i hi
      obtain ⟨cs', h1, h2⟩ := hx i (by omega)
      rw [ct1i, Nat.mul_one] at h1
      obtain ⟨z, rfl, -, -⟩ := DataW.trod_int Tryd.underlying3 h2
      have h3 := (World.cells?_some h1).2.2 0 (by decide)
      exact ⟨z, by simpa [Addr.add] using h3⟩
    obtain ⟨f, hf⟩ := Go.Deep.choose_lt hq
    refine ⟨some a', a'.block, a'.off, cap', (List.range len').map f, by simpa using e, ⟨?_, ?_, ?_⟩, by simpa using hle, hm⟩
    · intro hne
      have hpos : 0 < len' := by
        rcases Nat.eq_zero_or_pos len' with h | h
        · subst h; exact absurd rfl hne
        · exact h
      have h0 := hf 0 hpos
      have hsp : a'.spot = none := spot_of_cell (a := a') (v := .int .i64 (f 0)) (by simpa [Addr.add] using h0)
      cases a' with
      | mk b o s => simp only at hsp; subst hsp; rfl
    · intro i q hq
      have hi : i < len' := by
        have := List.getElem?_eq_some_iff.1 hq
        obtain ⟨h, _⟩ := this
        simpa using h
      have hqe : f i = q := by simpa [hi] using hq
      subst hqe
      have h0 := hf i hi
      have hsp : a'.spot = none := spot_of_cell (a := a') (v := .int .i64 (f 0)) (by simpa [Addr.add] using hf 0 (Nat.lt_of_le_of_lt (Nat.zero_le i) hi))
      cases a' with
      | mk b o s =>
        simp only at hsp; subst hsp
        have e1 : (⟨b, o, none⟩ : Addr).add i = ⟨b, o + i, none⟩ := by simp [Addr.add]
        rw [e1] at h0; exact h0
    · intro hne
      have hpos : 0 < len' := by
        rcases Nat.eq_zero_or_pos len' with h | h
        · subst h; exact absurd rfl hne
        · exact h
      have h0 := hf 0 hpos
      have := block_lt_of_cell h0
      simpa [Addr.add] using this

theorem ask_of_trod2 {n : Nat} {cs : List Value} {x : DataW H × List MemPlace} (h : DataW.trod enc Tryd.prog w base sp held n 37 cs = some x) : ∃ q : AskM, cs = q.cells ∧ PinOk w q.pin := by
  obtain ⟨q, hq⟩ := ask_of_trod h
  refine ⟨q, hq, ?_⟩
  obtain ⟨xs, m, rfl, rfl, hl, hx, hf⟩ := DataW.trod_struct Tryd.underlying37 h
  obtain ⟨x0, x1, x2, x3, rfl⟩ := len4 (show xs.length = 4 from hx)
  have h3 := hf 3 _ rfl
  subst hq
  have h3' : ∃ y, DataW.trod enc Tryd.prog w base sp held m 35 [q.pin] = some y := by
    refine ⟨x3, ?_⟩
    simpa [ct1i, ct10, ct1s, AskM.cells, Ent.cells] using h3
  obtain ⟨y, hy⟩ := h3'
  exact pin_of_trod hy

/-- The asks, out of the slice's reading, with their pins. -/
theorem asks_of_trod2 {fuel : Nat} {a : Option Addr} {len cap : Nat} {x : DataW H × List MemPlace} (h : DataW.trod enc Tryd.prog w base sp held fuel 22 [.slice a len cap] = some x) :
    ∃ (b o : Nat) (l : List AskM), l.length = len ∧ AsksAt w a b o l ∧ PinsAt w l := by
  rcases Go.Deep.open_slice Tryd.underlying22 h with ⟨e, -⟩ | ⟨a', len', cap', m, n, D, Pl, e, hb, hle, hm, hmm, -, hx⟩
  · simp only [List.cons.injEq, Value.slice.injEq, and_true] at e
    obtain ⟨rfl, rfl, rfl⟩ := e
    exact ⟨0, 0, [], rfl, ⟨fun h => absurd rfl h, fun i q hq => by simp at hq, fun h => absurd rfl h⟩, fun i q hq => by simp at hq⟩
  · simp only [List.cons.injEq, Value.slice.injEq, and_true] at e
    obtain ⟨rfl, rfl, rfl⟩ := e
    have hlm : len ≤ m := by rw [hmm]; split <;> omega
    have hq : ∀ i, i < len → ∃ q : AskM, (∀ j, j < 13 → w.cell? ((a'.add (i * 13)).add j) = q.cells[j]?) ∧ PinOk w q.pin := by
      intro i hi
      obtain ⟨cs', h1, h2⟩ := hx i (by omega)
      rw [ct13] at h1
      obtain ⟨q, rfl, hp⟩ := ask_of_trod2 h2
      exact ⟨q, (World.cells?_some h1).2.2, hp⟩
    haveI : Inhabited AskM := ⟨⟨0, 0, Ent.zero, .nilIface⟩⟩
    obtain ⟨f, hf⟩ := Go.Deep.choose_lt hq
    refine ⟨a'.block, a'.off, (List.range len).map f, by simp, ⟨?_, ?_, ?_⟩, ?_⟩
    · intro hne
      have hpos : 0 < len := by
        rcases Nat.eq_zero_or_pos len with h | h
        · subst h; exact absurd rfl hne
        · exact h
      have h0 := (hf 0 hpos).1 0 (by decide)
      have hsp : a'.spot = none := spot_of_cell (h0.trans (show _ = some (Value.int .i64 _) from rfl))
      cases a' with
      | mk b o s => simp only at hsp; subst hsp; rfl
    · intro i q hq j hj
      have hi : i < len := by
        have := List.getElem?_eq_some_iff.1 hq
        obtain ⟨h, _⟩ := this
        simpa using h
      have hqe : f i = q := by simpa [hi] using hq
      subst hqe
      have h0 := (hf i hi).1 j hj
      have hsp : a'.spot = none := spot_of_cell (((hf 0 (Nat.lt_of_le_of_lt (Nat.zero_le i) hi)).1 0 (by decide)).trans (show _ = some (Value.int .i64 _) from rfl))
      cases a' with
      | mk b o s => simp only at hsp; subst hsp; rw [add_add_at] at h0; exact h0
    · intro hne
      have hpos : 0 < len := by
        rcases Nat.eq_zero_or_pos len with h | h
        · subst h; exact absurd rfl hne
        · exact h
      have h0 := (hf 0 hpos).1 0 (by decide)
      exact block_lt_of_cell (a := (a'.add (0 * 13)).add 0) h0
    · intro i q hq
      have hi : i < len := by
        have := List.getElem?_eq_some_iff.1 hq
        obtain ⟨h, _⟩ := this
        simpa using h
      have hqe : f i = q := by simpa [hi] using hq
      subst hqe
      exact (hf i hi).2
end

set_option maxRecDepth 100000 in
theorem arrayPlays_lifted (os : Os) (started : os.Started) (H : Type) (enc : TypeId × Value → H) :
    ReturnsInHanded {} Tryd.checked os 4 .any (fun w args => (Rows.arrayPlaysSpec.pre enc Tryd.prog Tryd.f4 [] false w args ∧ laidMetH Tryd.prog laidL w) ∧ sizedMet enc Tryd.prog Tryd.f4 (OpenSpec.ofChange Rows.arrayPlaysSpec) false w args)
      (Rows.arrayPlaysSpec.post enc Tryd.prog Tryd.f4 false true false false) := by
  refine returnsInHanded_of_change_and (C := Tryd.checked) (X := fun w _ => laidMetH Tryd.prog laidL w) (fun _ _ _ hh h => laidMetH.of_heap hh h) own_knob started (by kernel_rfl) Tryd.func4
    (ChangeSpec.witness_at (enc := enc) (C := Tryd.checked) (os := os) (X := fun w _ => laidMetH Tryd.prog laidL w) false (laidWorld os) #[.int .i64 0, .int .i64 0, .slice none 0 0] 8 rfl (by kernel_rfl) (by kernel_rfl) (by kernel_rfl) (by kernel_rfl) (by kernel_rfl) (laidWorld_met os _)) ?_
  intro W base args ds gs before hval0 hW _ hsz0 hL _
  have hsz : (DataW.weightsEach Tryd.prog (Tryd.f4.params.toList ++ Rows.arrayPlaysSpec.plain.varTypes Tryd.prog) (ds ++ gs)).all (· ≤ reachBytes) = true := hsz0
  have hval : ∀ (j : Nat) t v, Tryd.f4.params[j]? = some t → args[j]? = some v → Value.okWide Tryd.prog W .any base t v := hval0
  have hW' := hW
  obtain ⟨p, q, hA0, hV, rfl, hfz, hnd⟩ := hW
  have hA : DataW.TrodAll enc Tryd.prog W 0 (fun _ => true) true Tryd.f4.params.toList args.toList ds p := hA0
  rw [Tryd.params4] at hA hval hsz
  obtain ⟨v0, v1, v2, d0, d1, d2, p0, p1, p2, rfl, rfl, rfl, h0, h1, h2⟩ := trodAll_three hA
  obtain ⟨rfl, rfl⟩ := trodVars_none hV
  obtain ⟨sets, rfl, rfl, rfl, ws⟩ := open_int Tryd.underlying3 (hval 0 3 v0 rfl rfl) h0
  obtain ⟨ways, rfl, rfl, rfl, ww⟩ := open_int Tryd.underlying3 (hval 1 3 v1 rfl rfl) h1
  obtain ⟨a, len, cap, rfl⟩ := okWide_slice Tryd.underlying22 (hval 2 22 v2 rfl rfl)
  have k2 := h2
  have lt2 : ∀ x ∈ p2, x.block < W.heap.size := by obtain ⟨m, hm⟩ := k2; exact DataW.trod_lt m _ _ _ hm
  obtain ⟨fuel, hf⟩ := h2
  obtain ⟨b, o, l, rfl, hl, hpin⟩ := asks_of_trod2 (show DataW.trod enc Tryd.prog W 0 (fun _ => true) true fuel 22 [.slice a len cap] = some (d2, p2) from hf)
  have hll : l.length ≤ 140737488351232 := by
    rcases Go.Deep.open_slice Tryd.underlying22 hf with ⟨e, -⟩ | ⟨a', len', cap', m, n, D, Pl, e, -, -, -, -, hx, -⟩
    · have e' : [Value.slice a l.length cap] = [.slice none 0 0] := e
      simp only [List.cons.injEq, Value.slice.injEq, and_true] at e'
      omega
    · have e' : [Value.slice a l.length cap] = [.slice (some a') len' cap'] := e
      simp only [List.cons.injEq, Value.slice.injEq, and_true] at e'
      obtain ⟨-, rfl, -⟩ := e'
      obtain rfl := congrArg Prod.fst hx
      have z := sized_slice hsz (j := 2) (t := 22) rfl rfl Tryd.underlying22
      have hb : 1 ≤ Tryd.prog.bytesOf 37 := of_decide_eq_true (by kernel_rfl)
      have z1 := Nat.le_trans (Nat.le_mul_of_pos_right _ hb) z
      have hr : reachBytes = 140737488351232 := rfl
      simp only [List.length_map, List.length_range] at z1
      omega
  obtain ⟨pg, hg⟩ := glob_of_laid hL
  refine (array_plays W pg hg sets ways a b o cap l hl hpin hll).mono fun e W' ⟨he, bel⟩ => ?_
  subst he
  exact ⟨_, rfl, _, _, _, [], _, [], hW', trodAll_mk1 (shut_bool Tryd.underlying4 _),
    trodAll_cons_mk (shut_int Tryd.underlying3 ws) (trodAll_cons_mk (shut_int Tryd.underlying3 ww) (trodAll_cons_mk (Below.trod laid_out (by kernel_rfl) (of_decide_eq_true (by kernel_rfl)) k2 bel lt2) trodAll_mk0)), rfl, bel.frame _, fun h => by cases h⟩

theorem arrayPlays_holds : Rows.ArrayPlaysSaid :=
  OpenClaim.holds_of_wide 4 Tryd.f4 rfl rfl rfl rfl rfl rfl rfl ⟨rfl, rfl, rfl, rfl, rfl⟩ rfl rfl rfl rfl rfl (by kernel_rfl) Tryd.func4 (by kernel_rfl)
    (of_decide_eq_true (by kernel_rfl)) (by unfold Func.isWrapper; first | (rw [if_pos (by decide +kernel)]; kernel_rfl) | (rw [if_neg (by decide +kernel)]; exact ⟨rfl, rfl⟩))
    (fun os started H enc _ => arrayPlays_lifted os started H enc)
end Go.Proofs.YtjmlficbnljiaaaDoor
