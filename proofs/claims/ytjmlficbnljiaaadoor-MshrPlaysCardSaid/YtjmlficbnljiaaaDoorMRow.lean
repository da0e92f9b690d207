/- The law MshrPlays: for every bound and every list of asks the law returns true, and the arguments read behind the call as before. -/
import Derived.Test.YtjmlficbnljiaaaDoorMAll
import Derived.Test.YtjmlficbnljiaaaDoorKeepsRow
namespace Go.Proofs.YtjmlficbnljiaaaDoor
open Go.ChangeShapes Go.WideShapes Go.ChangeAt Go.RowKit

theorem ct3 : Tryd.prog.cellsOf 73 = 3 := by kernel_rfl
theorem len3 {α : Type} {l : List α} (h : l.length = 3) : ∃ a b c, l = [a, b, c] := by
  match l, h with
  | [a, b, c], _ => exact ⟨a, b, c, rfl⟩

section
variable {H : Type} {enc : TypeId × Value → H} {w : World} {base : Nat} {sp : Nat → Bool} {held : Bool}

theorem ask7_of_trod {n : Nat} {cs : List Value} {x : DataW H × List MemPlace} (h : DataW.trod enc Tryd.prog w base sp held n 73 cs = some x) : ∃ q : Ask7, cs = q.cells := by
  obtain ⟨xs, m, rfl, rfl, hl, hx, hf⟩ := DataW.trod_struct Tryd.underlying73 h
  rw [ct3] at hl
  obtain ⟨a, b, c, rfl⟩ := len3 hl
  obtain ⟨x0, x1, x2, rfl⟩ := len3 (show xs.length = 3 from hx)
  have h0 := hf 0 _ rfl; have h1 := hf 1 _ rfl; have h2 := hf 2 _ rfl
  simp [ct1i] at h0 h1 h2
  obtain ⟨v0, e0, -, -⟩ := DataW.trod_int Tryd.underlying3 h0
  obtain ⟨v1, e1, -, -⟩ := DataW.trod_int Tryd.underlying3 h1
  obtain ⟨v2, e2, -, -⟩ := DataW.trod_int Tryd.underlying3 h2
  simp only [List.cons.injEq, and_true] at e0 e1 e2
  subst e0 e1 e2
  exact ⟨⟨v0, v1, v2⟩, rfl⟩

/-- The asks, out of the slice's reading. -/
theorem asks7_of_trod {fuel : Nat} {a : Option Addr} {len cap : Nat} {x : DataW H × List MemPlace} (h : DataW.trod enc Tryd.prog w base sp held fuel 65 [.slice a len cap] = some x) :
    ∃ (b o : Nat) (l : List Ask7), l.length = len ∧ Asks7At w a b o l := by
  rcases Go.Deep.open_slice Tryd.underlying65 h with ⟨e, -⟩ | ⟨a', len', cap', m, n, D, Pl, e, hb, hle, hm, hmm, -, hx⟩
  · simp only [List.cons.injEq, Value.slice.injEq, and_true] at e
    obtain ⟨rfl, rfl, rfl⟩ := e
    exact ⟨0, 0, [], rfl, fun h => absurd rfl h, fun i q hq => by simp at hq, fun h => absurd rfl h⟩
  · simp only [List.cons.injEq, Value.slice.injEq, and_true] at e
    obtain ⟨rfl, rfl, rfl⟩ := e
    have hlm : len ≤ m := by rw [hmm]; split <;> omega
    have hq : ∀ i, i < len → ∃ q : Ask7, ∀ j, j < 3 → w.cell? ((a'.add (i * 3)).add j) = q.cells[j]? := by
      intro i hi
      obtain ⟨cs', h1, h2⟩ := hx i (by omega)
      rw [ct3] at h1
      obtain ⟨q, rfl⟩ := ask7_of_trod h2
      exact ⟨q, (World.cells?_some h1).2.2⟩
    haveI : Inhabited Ask7 := ⟨⟨0, 0, 0⟩⟩
    obtain ⟨f, hf⟩ := Go.Deep.choose_lt hq
    have hspot : 0 < len → a'.spot = none := fun hpos => by
      have h0 := hf 0 hpos 0 (by decide)
      have h1 : w.cell? a' = some (Value.int .i64 (f 0).kind) := by simpa [Addr.add] using h0.trans (show _ = some (Value.int .i64 (f 0).kind) from rfl)
      exact spot_of_cell (a := a') (v := .int .i64 (f 0).kind) (by simpa [Addr.add] using h1)
    have hposOf : (List.range len).map f ≠ [] → 0 < len := fun hne => by
      rcases Nat.eq_zero_or_pos len with h | h
      · subst h; exact absurd rfl hne
      · exact h
    refine ⟨a'.block, a'.off, (List.range len).map f, by simp, ?_, ?_, ?_⟩
    · intro hne
      have hsp := hspot (hposOf hne)
      cases a' with
      | mk b o s => simp only at hsp; subst hsp; rfl
    · intro i q hq j hj
      have hi : i < len := by
        have := List.getElem?_eq_some_iff.1 hq
        obtain ⟨h, _⟩ := this
        simpa using h
      have hqe : f i = q := by simpa [hi] using hq
      subst hqe
      have h0 := hf i hi j hj
      have hsp := hspot (Nat.lt_of_le_of_lt (Nat.zero_le i) hi)
      cases a' with
      | mk b o s => simp only at hsp; subst hsp; rw [add_add_at] at h0; exact h0
    · intro hne
      have h0 := hf 0 (hposOf hne) 0 (by decide)
      exact block_lt_of_cell (a := (a'.add (0 * 3)).add 0) h0
end

set_option maxRecDepth 100000 in
theorem mshrPlays_lifted (os : Os) (started : os.Started) (H : Type) (enc : TypeId × Value → H) :
    ReturnsInHanded {} Tryd.checked os 5 .any (fun w args => (Rows.mshrPlaysSpec.pre enc Tryd.prog Tryd.f5 [] false w args ∧ laidMetH Tryd.prog laidL w) ∧ sizedMet enc Tryd.prog Tryd.f5 (OpenSpec.ofChange Rows.mshrPlaysSpec) false w args)
      (Rows.mshrPlaysSpec.post enc Tryd.prog Tryd.f5 false true false false) := by
  refine returnsInHanded_of_change_and (C := Tryd.checked) (X := fun w _ => laidMetH Tryd.prog laidL w) (fun _ _ _ hh h => laidMetH.of_heap hh h) own_knob started (by kernel_rfl) Tryd.func5
    (ChangeSpec.witness_at (enc := enc) (C := Tryd.checked) (os := os) (X := fun w _ => laidMetH Tryd.prog laidL w) false (laidWorld os) #[.int .i64 0, .slice none 0 0] 8 rfl (by kernel_rfl) (by kernel_rfl) (by kernel_rfl) (by kernel_rfl) (by kernel_rfl) (laidWorld_met os _)) ?_
  intro W base args ds gs before hval0 hW _ hsz0 hL _
  have hsz : (DataW.weightsEach Tryd.prog (Tryd.f5.params.toList ++ Rows.mshrPlaysSpec.plain.varTypes Tryd.prog) (ds ++ gs)).all (· ≤ reachBytes) = true := hsz0
  have hval : ∀ (j : Nat) t v, Tryd.f5.params[j]? = some t → args[j]? = some v → Value.okWide Tryd.prog W .any base t v := hval0
  have hW' := hW
  obtain ⟨p, q, hA0, hV, rfl, hfz, hnd⟩ := hW
  have hA : DataW.TrodAll enc Tryd.prog W 0 (fun _ => true) true Tryd.f5.params.toList args.toList ds p := hA0
  rw [Tryd.params5] at hA hval hsz
  obtain ⟨v0, v1, d0, d1, p0, p1, rfl, rfl, rfl, h0, h1⟩ := trodAll_two hA
  obtain ⟨rfl, rfl⟩ := trodVars_none hV
  obtain ⟨most, rfl, rfl, rfl, wm⟩ := open_int Tryd.underlying3 (hval 0 3 v0 rfl rfl) h0
  obtain ⟨a, len, cap, rfl⟩ := okWide_slice Tryd.underlying65 (hval 1 65 v1 rfl rfl)
  have k1 := h1
  have lt1 : ∀ x ∈ p1, x.block < W.heap.size := by obtain ⟨m, hm⟩ := k1; exact DataW.trod_lt m _ _ _ hm
  obtain ⟨fuel, hf⟩ := h1
  obtain ⟨b, o, l, rfl, hl⟩ := asks7_of_trod (show DataW.trod enc Tryd.prog W 0 (fun _ => true) true fuel 65 [.slice a len cap] = some (d1, p1) from hf)
  have hll : l.length ≤ 140737488351232 := by
    rcases Go.Deep.open_slice Tryd.underlying65 hf with ⟨e, -⟩ | ⟨a', len', cap', m, n, D, Pl, e, -, -, -, -, hx, -⟩
    · have e' : [Value.slice a l.length cap] = [.slice none 0 0] := e
      simp only [List.cons.injEq, Value.slice.injEq, and_true] at e'
      omega
    · have e' : [Value.slice a l.length cap] = [.slice (some a') len' cap'] := e
      simp only [List.cons.injEq, Value.slice.injEq, and_true] at e'
      obtain ⟨-, rfl, -⟩ := e'
      obtain rfl := congrArg Prod.fst hx
      have z := sized_slice hsz (j := 1) (t := 65) rfl rfl Tryd.underlying65
      have hb : 1 ≤ Tryd.prog.bytesOf 73 := of_decide_eq_true (by kernel_rfl)
      have z1 := Nat.le_trans (Nat.le_mul_of_pos_right _ hb) z
      have hr : reachBytes = 140737488351232 := rfl
      simp only [List.length_map, List.length_range] at z1
      omega
  obtain ⟨pg, hg⟩ := glob_of_laid hL
  refine (mshr_plays W pg hg most a b o cap l hl hll).mono fun e W' ⟨he, bel⟩ => ?_
  subst he
  exact ⟨_, rfl, _, _, _, [], _, [], hW', trodAll_mk1 (shut_bool Tryd.underlying4 _),
    trodAll_cons_mk (shut_int Tryd.underlying3 wm) (trodAll_cons_mk (Below.trod laid_out (by kernel_rfl) (of_decide_eq_true (by kernel_rfl)) k1 bel lt1) trodAll_mk0), rfl, bel.frame _, fun h => by cases h⟩

theorem mshrPlays_holds : Rows.MshrPlaysSaid :=
  OpenClaim.holds_of_wide 5 Tryd.f5 rfl rfl rfl rfl rfl rfl rfl ⟨rfl, rfl, rfl, rfl, rfl⟩ rfl rfl rfl rfl rfl (by kernel_rfl) Tryd.func5 (by kernel_rfl)
    (of_decide_eq_true (by kernel_rfl)) (by unfold Func.isWrapper; first | (rw [if_pos (by decide +kernel)]; kernel_rfl) | (rw [if_neg (by decide +kernel)]; exact ⟨rfl, rfl⟩))
    (fun os started H enc _ => mshrPlays_lifted os started H enc)
end Go.Proofs.YtjmlficbnljiaaaDoor
