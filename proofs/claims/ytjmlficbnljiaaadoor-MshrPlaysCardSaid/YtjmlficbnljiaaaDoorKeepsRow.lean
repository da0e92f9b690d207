/- The law ArrayKeeps: for every list of asks and every line the law returns true, and the arguments read behind the call as before. -/
import Derived.Test.YtjmlficbnljiaaaDoorKeeps
import Derived.Test.YtjmlficbnljiaaaDoorLaid
import Derived.WalkKit
import Derived.ProofKit
import Derived.OpenShut
import Derived.ShutString
import Derived.Below
import Derived.SizedLaws
import Derived.Deep.Slices
import Derived.Stop.Joined
namespace Go.Proofs.YtjmlficbnljiaaaDoor
open Go.ChangeShapes Go.WideShapes Go.ChangeAt Go.RowKit

theorem ct13 : Tryd.prog.cellsOf 37 = 13 := by kernel_rfl
theorem ct10 : Tryd.prog.cellsOf 32 = 10 := by kernel_rfl
theorem ct4 : Tryd.prog.cellsOf 30 = 4 := by kernel_rfl
theorem ct1i : Tryd.prog.cellsOf 3 = 1 := by kernel_rfl
theorem ct1b : Tryd.prog.cellsOf 4 = 1 := by kernel_rfl
theorem ct1u : Tryd.prog.cellsOf 28 = 1 := by kernel_rfl
theorem ct1s : Tryd.prog.cellsOf 35 = 1 := by kernel_rfl

section
variable {H : Type} {enc : TypeId × Value → H} {w : World} {base : Nat} {sp : Nat → Bool} {held : Bool}

theorem spot_of_cell {a : Addr} {v : Value} (h : w.cell? ((a.add (0 * 13)).add 0) = some v) : a.spot = none := by
  have h' : w.cell? a = some v := by simpa [Addr.add] using h
  unfold World.cell? at h'
  split at h'
  · cases hs : a.spot with
    | none => rfl
    | some s => simp [hs] at h'
  · cases h'
theorem add_add_at (b o i j : Nat) : ((⟨b, o, none⟩ : Addr).add i).add j = ⟨b, o + i + j, none⟩ := by
  unfold Addr.add
  split <;> split <;> simp_all

theorem len4 {α : Type} {l : List α} (h : l.length = 4) : ∃ a b c d, l = [a, b, c, d] := by
  match l, h with
  | [a, b, c, d], _ => exact ⟨a, b, c, d, rfl⟩
theorem len7 {α : Type} {l : List α} (h : l.length = 7) : ∃ a b c d e f g, l = [a, b, c, d, e, f, g] := by
  match l, h with
  | [a, b, c, d, e, f, g], _ => exact ⟨a, b, c, d, e, f, g, rfl⟩
theorem len10 {α : Type} {l : List α} (h : l.length = 10) : ∃ a b c d e f g i j k, l = [a, b, c, d, e, f, g, i, j, k] := by
  match l, h with
  | [a, b, c, d, e, f, g, i, j, k], _ => exact ⟨a, b, c, d, e, f, g, i, j, k, rfl⟩
theorem len13 {α : Type} {l : List α} (h : l.length = 13) : ∃ a b x0 x1 x2 x3 x4 x5 x6 x7 x8 x9 c, l = [a, b, x0, x1, x2, x3, x4, x5, x6, x7, x8, x9, c] := by
  match l, h with
  | [a, b, x0, x1, x2, x3, x4, x5, x6, x7, x8, x9, c], _ => exact ⟨a, b, x0, x1, x2, x3, x4, x5, x6, x7, x8, x9, c, rfl⟩

theorem ent_of_trod {n : Nat} {cs : List Value} {x : DataW H × List MemPlace} (h : DataW.trod enc Tryd.prog w base sp held n 32 cs = some x) : ∃ e : Ent, cs = e.cells := by
  obtain ⟨xs, m, rfl, rfl, hl, hx, hf⟩ := DataW.trod_struct Tryd.underlying32 h
  rw [ct10] at hl
  obtain ⟨c0, c1, c2, c3, c4, c5, c6, c7, c8, c9, rfl⟩ := len10 hl
  obtain ⟨x0, x1, x2, x3, x4, x5, x6, rfl⟩ := len7 (show xs.length = 7 from hx)
  have h0 := hf 0 _ rfl; have h1 := hf 1 _ rfl; have h2 := hf 2 _ rfl; have h3 := hf 3 _ rfl; have h4 := hf 4 _ rfl; have h5 := hf 5 _ rfl; have h6 := hf 6 _ rfl
  simp [ct1i, ct1b, ct4] at h0 h1 h2 h3 h4 h5 h6
  obtain ⟨v0, e0, -, -⟩ := DataW.trod_int Tryd.underlying3 h0
  obtain ⟨v1, e1, -, -⟩ := DataW.trod_int Tryd.underlying3 h1
  obtain ⟨v2, e2, -, -⟩ := DataW.trod_int Tryd.underlying3 h2
  obtain ⟨v3, e3, -, -⟩ := DataW.trod_int Tryd.underlying3 h3
  obtain ⟨ys, k, rfl, -, -, hy, hg⟩ := DataW.trod_array Tryd.underlying30 h4
  obtain ⟨y0, y1, y2, y3, rfl⟩ := len4 hy
  have g0 := hg 0 (by decide); have g1 := hg 1 (by decide); have g2 := hg 2 (by decide); have g3 := hg 3 (by decide)
  simp [ct1u] at g0 g1 g2 g3
  obtain ⟨u0, k0, -, -⟩ := DataW.trod_int Tryd.underlying28 g0
  obtain ⟨u1, k1, -, -⟩ := DataW.trod_int Tryd.underlying28 g1
  obtain ⟨u2, k2, -, -⟩ := DataW.trod_int Tryd.underlying28 g2
  obtain ⟨u3, k3, -, -⟩ := DataW.trod_int Tryd.underlying28 g3
  obtain ⟨b5, e5, -⟩ := DataW.trod_bool Tryd.underlying4 h5
  obtain ⟨b6, e6, -⟩ := DataW.trod_bool Tryd.underlying4 h6
  simp only [List.cons.injEq, and_true] at e0 e1 e2 e3 k0 k1 k2 k3 e5 e6
  subst e0 e1 e2 e3 k0 k1 k2 k3 e5 e6
  exact ⟨⟨v0, v1, v2, v3, u0, u1, u2, u3, b5, b6⟩, rfl⟩

theorem ask_of_trod {n : Nat} {cs : List Value} {x : DataW H × List MemPlace} (h : DataW.trod enc Tryd.prog w base sp held n 37 cs = some x) : ∃ q : AskM, cs = q.cells := by
  obtain ⟨xs, m, rfl, rfl, hl, hx, hf⟩ := DataW.trod_struct Tryd.underlying37 h
  rw [ct13] at hl
  obtain ⟨a, b, z0, z1, z2, z3, z4, z5, z6, z7, z8, z9, c, rfl⟩ := len13 hl
  obtain ⟨x0, x1, x2, x3, rfl⟩ := len4 (show xs.length = 4 from hx)
  have h0 := hf 0 _ rfl; have h1 := hf 1 _ rfl; have h2 := hf 2 _ rfl
  simp [ct1i, ct10] at h0 h1 h2
  obtain ⟨v0, e0, -, -⟩ := DataW.trod_int Tryd.underlying3 h0
  obtain ⟨v1, e1, -, -⟩ := DataW.trod_int Tryd.underlying3 h1
  obtain ⟨e, he⟩ := ent_of_trod h2
  simp only [List.cons.injEq, and_true] at e0 e1
  subst e0 e1
  exact ⟨⟨v0, v1, e, c⟩, congrArg (fun l => Value.int .i64 v0 :: Value.int .i64 v1 :: (l ++ [c])) he⟩

/-- The asks, out of the slice's reading. -/
theorem asks_of_trod {fuel : Nat} {a : Option Addr} {len cap : Nat} {x : DataW H × List MemPlace} (h : DataW.trod enc Tryd.prog w base sp held fuel 22 [.slice a len cap] = some x) :
    ∃ (b o : Nat) (l : List AskM), l.length = len ∧ AsksAt w a b o l := by
  rcases Go.Deep.open_slice Tryd.underlying22 h with ⟨e, -⟩ | ⟨a', len', cap', m, n, D, Pl, e, hb, hle, hm, hmm, -, hx⟩
  · simp only [List.cons.injEq, Value.slice.injEq, and_true] at e
    obtain ⟨rfl, rfl, rfl⟩ := e
    exact ⟨0, 0, [], rfl, fun h => absurd rfl h, fun i q hq => by simp at hq, fun h => absurd rfl h⟩
  · simp only [List.cons.injEq, Value.slice.injEq, and_true] at e
    obtain ⟨rfl, rfl, rfl⟩ := e
    have hlm : len ≤ m := by rw [hmm]; split <;> omega
    have hq : ∀ i, i < len → ∃ q : AskM, ∀ j, j < 13 → w.cell? ((a'.add (i * 13)).add j) = q.cells[j]? := by
      intro i hi
      obtain ⟨cs', h1, h2⟩ := hx i (by omega)
      rw [ct13] at h1
      obtain ⟨q, rfl⟩ := ask_of_trod h2
      exact ⟨q, (World.cells?_some h1).2.2⟩
    haveI : Inhabited AskM := ⟨⟨0, 0, Ent.zero, .nilIface⟩⟩
    obtain ⟨f, hf⟩ := Go.Deep.choose_lt hq
    refine ⟨a'.block, a'.off, (List.range len).map f, by simp, ?_, ?_, ?_⟩
    · intro hne
      have hpos : 0 < len := by
        rcases Nat.eq_zero_or_pos len with h | h
        · subst h; exact absurd rfl hne
        · exact h
      have h0 := hf 0 hpos 0 (by decide)
      have hsp : a'.spot = none := spot_of_cell (h0.trans (show _ = some (Value.int .i64 _) from rfl))
      cases a' with
      | mk b o s => simp only at hsp; subst hsp; rfl
    · intro i q hq j hj
      have hi : i < len := by
        have := List.getElem?_eq_some_iff.1 hq
        obtain ⟨h, _⟩ := this
        simpa using h
      have hqe : f i = q := by simpa [hi] using hq
      subst hqe
      have h0 := hf i hi j hj
      have hsp : a'.spot = none := spot_of_cell ((hf 0 (Nat.lt_of_le_of_lt (Nat.zero_le i) hi) 0 (by decide)).trans (show _ = some (Value.int .i64 _) from rfl))
      cases a' with
      | mk b o s => simp only at hsp; subst hsp; rw [add_add_at] at h0; exact h0
    · intro hne
      have hpos : 0 < len := by
        rcases Nat.eq_zero_or_pos len with h | h
        · subst h; exact absurd rfl hne
        · exact h
      have h0 := hf 0 hpos 0 (by decide)
      exact block_lt_of_cell (a := (a'.add (0 * 13)).add 0) h0
end

set_option maxRecDepth 100000 in
theorem arrayKeeps_lifted (os : Os) (started : os.Started) (H : Type) (enc : TypeId × Value → H) :
    ReturnsInHanded {} Tryd.checked os 3 .any (fun w args => (Rows.arrayKeepsSpec.pre enc Tryd.prog Tryd.f3 [] false w args ∧ laidMetH Tryd.prog laidL w) ∧ sizedMet enc Tryd.prog Tryd.f3 (OpenSpec.ofChange Rows.arrayKeepsSpec) false w args)
      (Rows.arrayKeepsSpec.post enc Tryd.prog Tryd.f3 false true false false) := by
  refine returnsInHanded_of_change_and (C := Tryd.checked) (X := fun w _ => laidMetH Tryd.prog laidL w) (fun _ _ _ hh h => laidMetH.of_heap hh h) own_knob started (by kernel_rfl) Tryd.func3
    (ChangeSpec.witness_at (enc := enc) (C := Tryd.checked) (os := os) (X := fun w _ => laidMetH Tryd.prog laidL w) false (laidWorld os) #[.slice none 0 0, .int .i64 0] 8 rfl (by kernel_rfl) (by kernel_rfl) (by kernel_rfl) (by kernel_rfl) (by kernel_rfl) (laidWorld_met os _)) ?_
  intro W base args ds gs before hval0 hW _ hsz0 hL _
  have hsz : (DataW.weightsEach Tryd.prog (Tryd.f3.params.toList ++ Rows.arrayKeepsSpec.plain.varTypes Tryd.prog) (ds ++ gs)).all (· ≤ reachBytes) = true := hsz0
  have hval : ∀ (j : Nat) t v, Tryd.f3.params[j]? = some t → args[j]? = some v → Value.okWide Tryd.prog W .any base t v := hval0
  have hW' := hW
  obtain ⟨p, q, hA0, hV, rfl, hfz, hnd⟩ := hW
  have hA : DataW.TrodAll enc Tryd.prog W 0 (fun _ => true) true Tryd.f3.params.toList args.toList ds p := hA0
  rw [Tryd.params3] at hA hval hsz
  obtain ⟨v0, v1, d0, d1, p0, p1, rfl, rfl, rfl, h0, h1⟩ := trodAll_two hA
  obtain ⟨rfl, rfl⟩ := trodVars_none hV
  obtain ⟨a, len, cap, rfl⟩ := okWide_slice Tryd.underlying22 (hval 0 22 v0 rfl rfl)
  obtain ⟨line, rfl, rfl, rfl, wl⟩ := open_int Tryd.underlying3 (hval 1 3 v1 rfl rfl) h1
  have k0 := h0
  have lt0 : ∀ x ∈ p0, x.block < W.heap.size := by obtain ⟨m, hm⟩ := k0; exact DataW.trod_lt m _ _ _ hm
  obtain ⟨fuel, hf⟩ := h0
  obtain ⟨b, o, l, rfl, hl⟩ := asks_of_trod (show DataW.trod enc Tryd.prog W 0 (fun _ => true) true fuel 22 [.slice a len cap] = some (d0, p0) from hf)
  have hll : l.length ≤ 140737488351232 := by
    rcases Go.Deep.open_slice Tryd.underlying22 hf with ⟨e, -⟩ | ⟨a', len', cap', m, n, D, Pl, e, -, -, -, -, hx, -⟩
    · have e' : [Value.slice a l.length cap] = [.slice none 0 0] := e
      simp only [List.cons.injEq, Value.slice.injEq, and_true] at e'
      omega
    · have e' : [Value.slice a l.length cap] = [.slice (some a') len' cap'] := e
      simp only [List.cons.injEq, Value.slice.injEq, and_true] at e'
      obtain ⟨-, rfl, -⟩ := e'
      obtain rfl := congrArg Prod.fst hx
      have z := sized_slice hsz (j := 0) (t := 22) rfl rfl Tryd.underlying22
      have hb : 1 ≤ Tryd.prog.bytesOf 37 := of_decide_eq_true (by kernel_rfl)
      have z1 := Nat.le_trans (Nat.le_mul_of_pos_right _ hb) z
      have hr : reachBytes = 140737488351232 := rfl
      simp only [List.length_map, List.length_range] at z1
      omega
  obtain ⟨pg, hg⟩ := glob_of_laid hL
  refine (array_keeps W pg hg a b o cap l line hl hll).mono fun e W' ⟨he, bel⟩ => ?_
  subst he
  exact ⟨_, rfl, _, _, _, [], _, [], hW', trodAll_mk1 (shut_bool Tryd.underlying4 _),
    trodAll_cons_mk (Below.trod laid_out (by kernel_rfl) (of_decide_eq_true (by kernel_rfl)) k0 bel lt0) (trodAll_cons_mk (shut_int Tryd.underlying3 wl) trodAll_mk0), rfl, bel.frame _, fun h => by cases h⟩

theorem arrayKeeps_holds : Rows.ArrayKeepsSaid :=
  OpenClaim.holds_of_wide 3 Tryd.f3 rfl rfl rfl rfl rfl rfl rfl ⟨rfl, rfl, rfl, rfl, rfl⟩ rfl rfl rfl rfl rfl (by kernel_rfl) Tryd.func3 (by kernel_rfl)
    (of_decide_eq_true (by kernel_rfl)) (by unfold Func.isWrapper; first | (rw [if_pos (by decide +kernel)]; kernel_rfl) | (rw [if_neg (by decide +kernel)]; exact ⟨rfl, rfl⟩))
    (fun os started H enc _ => arrayKeeps_lifted os started H enc)
end Go.Proofs.YtjmlficbnljiaaaDoor
