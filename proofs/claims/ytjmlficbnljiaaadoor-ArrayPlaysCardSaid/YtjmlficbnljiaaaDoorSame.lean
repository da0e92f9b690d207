/- Same, over the document's entries. -/
import Derived.Test.YtjmlficbnljiaaaDoorNewBad
namespace Go.Proofs.YtjmlficbnljiaaaDoor
open Go.RowKit

/-- A slice of entries: its words, and its cells. -/
structure EntsAt (w : World) (a : Option Addr) (g : Nat) (l : List Ent) : Prop where
  addr : l ≠ [] → a = some ⟨g, 0, none⟩
  cell : ∀ (i : Nat) (e : Ent), l[i]? = some e → ∀ j, j < 10 → w.cell? ⟨g, i * 10 + j, none⟩ = e.cells[j]?
  lt : l ≠ [] → g < w.heap.size

theorem EntsAt.below {w w' : World} {a : Option Addr} {g B : Nat} {l : List Ent} (h : EntsAt w a g l) (hb : Below B w w') (hB : w.heap.size ≤ B) : EntsAt w' a g l :=
  ⟨h.addr, fun i e he j hj => by
    have h1 := h.cell i e he j hj
    obtain ⟨v, hv⟩ : ∃ v, e.cells[j]? = some v := ⟨_, List.getElem?_eq_getElem (by rw [Ent.cells_length]; exact hj)⟩
    rw [hv] at h1 ⊢
    exact cell_below hb h1 (Nat.lt_of_lt_of_le (h.lt (by rintro rfl; simp at he)) hB), fun hn => Nat.lt_of_lt_of_le (h.lt hn) hb.size⟩

theorem EntsAt.ten {w : World} {a : Option Addr} {b : Nat} {l : List Ent} (h : EntsAt w a b l) {i : Nat} {e : Ent} (he : l[i]? = some e) :
    w.cell? ⟨b, i * 10, none⟩ = some (.int .i64 e.line) ∧ w.cell? ⟨b, i * 10 + 1, none⟩ = some (.int .i64 e.state) ∧ w.cell? ⟨b, i * 10 + 2, none⟩ = some (.int .i64 e.mode)
    ∧ w.cell? ⟨b, i * 10 + 3, none⟩ = some (.int .i64 e.epoch) ∧ w.cell? ⟨b, i * 10 + 4, none⟩ = some (.int .u32 e.d0) ∧ w.cell? ⟨b, i * 10 + 5, none⟩ = some (.int .u32 e.d1)
    ∧ w.cell? ⟨b, i * 10 + 6, none⟩ = some (.int .u32 e.d2) ∧ w.cell? ⟨b, i * 10 + 7, none⟩ = some (.int .u32 e.d3) ∧ w.cell? ⟨b, i * 10 + 8, none⟩ = some (.bool e.held) ∧ w.cell? ⟨b, i * 10 + 9, none⟩ = some (.bool e.fresh) :=
  ⟨h.cell i e he 0 (by omega), h.cell i e he 1 (by omega), h.cell i e he 2 (by omega), h.cell i e he 3 (by omega), h.cell i e he 4 (by omega), h.cell i e he 5 (by omega), h.cell i e he 6 (by omega), h.cell i e he 7 (by omega), h.cell i e he 8 (by omega), h.cell i e he 9 (by omega)⟩

/-- Out of a slice that the call itself made. -/
theorem EntsAt.of_own {w : World} {B : Nat} {t : TypeId} {v : Value} {l : List Ent} (h : w.ownsRow B t 10 v l.length (flat Ent.cells l)) : ∃ a c g, v = .slice a l.length c ∧ EntsAt w a g l ∧ (l ≠ [] → v.ownBlock = some g) := by
  rcases h.2 with ⟨hv, hn⟩ | ⟨g, cap, cur, hv, hb, hg, -⟩
  · have : l = [] := List.eq_nil_of_length_eq_zero hn
    subst this
    exact ⟨none, 0, 0, hv, ⟨fun h => absurd rfl h, fun i e he => by simp at he, fun h => absurd rfl h⟩, fun h => absurd rfl h⟩
  · refine ⟨some ⟨g, 0, none⟩, cap, g, hv, ⟨fun _ => rfl, fun i e he j hj => ?_, fun _ => lt_of_block hg⟩, fun _ => by rw [hv]; rfl⟩
    have h1 := flat_get Ent.cells_length he hj
    obtain ⟨u, hu⟩ : ∃ v, e.cells[j]? = some v := ⟨_, List.getElem?_eq_getElem (by rw [Ent.cells_length]; exact hj)⟩
    rw [hu] at h1
    have := h.cells (by rw [hv]; rfl) _ _ h1
    rw [add_zero_at] at this
    rw [this, hu]

set_option maxHeartbeats 1600000 in
set_option maxRecDepth 10000 in
theorem Same_ref (w : World) (a b : Option Addr) (g h' c d : Nat) (l m : List Ent) (hl : EntsAt w a g l) (hm : EntsAt w b h' m) (hll : l.length ≤ 1000) (hml : m.length ≤ 1000) :
    Calls Tryd.prog 25 #[.slice a l.length c, .slice b m.length d] w fun e w' => e = .returned (.bool (decide (l = m))) ∧ Below w.heap.size w w' := by
  by_cases hlen : l.length = m.length
  · by_cases hn : l = []
    · subst hn
      have hm0 : m = [] := List.eq_nil_of_length_eq_zero hlen.symm
      subst hm0
      clear hlen
      go_enter Tryd.func25, Tryd.ntmps25
      go_wp2
      refine wp_loop_rounds 1 ?_
      rw [rounds_succ]
      go_wp2
      go_ret
      exact ⟨ret_bool (by simp), Below.refl _ _⟩
    · have hmn : m ≠ [] := fun h => hn (List.eq_nil_of_length_eq_zero (by rw [hlen, h]; rfl))
      obtain rfl := hl.addr hn
      obtain rfl := hm.addr hmn
      have HL := Lib.hid hl
      have HM := Lib.hid hm
      have HLEN := Lib.hid hlen
      rw [← hlen]
      clear hl hm hlen
      go_enter Tryd.func25, Tryd.ntmps25
      go_wp2
      go_loopw [5] (fun i wr => ∃ k : Nat, k ≤ l.length ∧ i = .int .i64 k ∧ Below w.heap.size w wr ∧ ∀ j, j < k → l[j]? = m[j]?) (fun i _ => l.length - (intOf i).toNat)
      case atStart => exact ⟨0, Nat.zero_le _, rfl, Below.refl _ _, fun j hj => by omega⟩
      case round =>
        obtain ⟨k, hk, rfl, hB, hno⟩ := hrel
        have HN := Lib.hid hno
        have HB := Lib.hid hB
        clear hno hB
        by_cases hlt : k < l.length
        · obtain ⟨e, he⟩ : ∃ e, l[k]? = some e := ⟨_, List.getElem?_eq_getElem hlt⟩
          obtain ⟨f, hf⟩ : ∃ e, m[k]? = some e := ⟨_, List.getElem?_eq_getElem (by have := HLEN.out; omega)⟩
          obtain ⟨c0, c1, c2, c3, c4, c5, c6, c7, c8, c9⟩ := (HL.out.below HB.out (Nat.le_refl _)).ten he
          obtain ⟨d0, d1, d2, d3, d4, d5, d6, d7, d8, d9⟩ := (HM.out.below HB.out (Nat.le_refl _)).ten hf
          have HE := Lib.hid he
          have HF := Lib.hid hf
          have hne := fun W => neq_ref e f W
          unfold Ent.val at hne
          clear he hf
          by_cases hef : e = f
          · have HEF := Lib.hid hef
            have hd : decide (e = f) = true := by simpa using hef
            rw [hd] at hne
            clear hd hef
            go_wp2_with fail
            go_quiet (fail)
            have hB4 := below_drewN HB.out nq
            generalize wr.drewN nq = w4 at *
            have HB4 := Lib.hid hB4
            clear hB4 c0 c1 c2 c3 c4 c5 c6 c7 c8 c9 d0 d1 d2 d3 d4 d5 d6 d7 d8 d9
            go_wp2_with fail
            go_roundw
            case rel =>
              refine ⟨k + 1, by omega, by go_num, HB4.out, ?_⟩
              intro j hj
              rcases Nat.lt_succ_iff_lt_or_eq.1 hj with h | h
              · exact HN.out j h
              · subst h
                rw [HE.out, HF.out, HEF.out]
            case measure => first | (simp [intOf]; done) | (simp [intOf]; omega)
          · have HEF := Lib.hid hef
            have hd : decide (e = f) = false := by simpa using hef
            rw [hd] at hne
            clear hd hef
            go_wp2_with fail
            go_quiet (fail)
            have hB4 := below_drewN HB.out nq
            generalize wr.drewN nq = w4 at *
            have HB4 := Lib.hid hB4
            clear hB4 c0 c1 c2 c3 c4 c5 c6 c7 c8 c9 d0 d1 d2 d3 d4 d5 d6 d7 d8 d9
            go_wp2_with fail
            go_ret
            refine ⟨ret_bool ?_, HB4.out⟩
            have : ¬ l = m := fun h => by
              have h1 := HE.out
              have h2 := HF.out
              rw [h, h2] at h1
              cases h1
              exact HEF.out rfl
            simpa using this
        · obtain rfl : k = l.length := by omega
          go_wp2_with fail
          go_ret
          refine ⟨ret_bool ?_, HB.out⟩
          have : l = m := by
            apply List.ext_getElem?
            intro j
            by_cases hj : j < l.length
            · exact HN.out j hj
            · rw [List.getElem?_eq_none (by omega), List.getElem?_eq_none (by have := HLEN.out; omega)]
          simpa using this
  · have hne : ((l.length : Int) == (m.length : Int)) = false := by rw [beq_eq_false_iff_ne]; omega
    have hne2 : ¬ (l.length : Int) = (m.length : Int) := by omega
    have HNE := Lib.hid hlen
    clear hl hm hlen
    go_enter Tryd.func25, Tryd.ntmps25
    go_wp2
    go_ret
    refine ⟨ret_bool ?_, Below.refl _ _⟩
    have : ¬ l = m := fun h => HNE.out (by rw [h])
    simpa using this
end Go.Proofs.YtjmlficbnljiaaaDoor
