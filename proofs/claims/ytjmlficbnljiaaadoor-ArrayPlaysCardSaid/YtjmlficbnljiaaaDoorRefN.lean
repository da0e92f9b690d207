/- The document's own NewArray. -/
import Derived.Test.YtjmlficbnljiaaaDoorRefX
import Derived.Test.YtjmlficbnljiaaaDoorList
namespace Go.Proofs.YtjmlficbnljiaaaDoor
open Go.RowKit

theorem make_rows (n : Nat) (hn : pow8 n) (w : World) : (Instr.makeSlice 56 (.int .i64 n) (.int .i64 n)).run Tryd.prog w = .ok (.slice (some ⟨w.heap.size, 0, none⟩) n n) (w.alloc (.cells (zEnts n).toArray 50)) := by
  rcases hn with rfl | rfl | rfl | rfl <;> kernel_rfl
def zBits (n : Nat) : List Value := List.replicate n (.int .u8 0)
theorem make_bits (n : Nat) (hn : pow8 n) (w : World) : (Instr.makeSlice 58 (.int .i64 n) (.int .i64 n)).run Tryd.prog w = .ok (.slice (some ⟨w.heap.size, 0, none⟩) n n) (w.alloc (.cells (zBits n).toArray 5)) := by
  rcases hn with rfl | rfl | rfl | rfl <;> kernel_rfl
theorem infoRow : (Tryd.prog.info? 56).map (fun i => (i.zero, i.size, i.bytes)) = some (some (.slice none 0 0), 1, 24) := by kernel_rfl

set_option maxHeartbeats 800000 in
theorem NewArray_bad0 (n k : Int) (hn : isPow n = false) (w : World) :
    Calls Tryd.prog 13 #[.int .i64 n, .int .i64 k] w fun e w' => e = .returned (.tuple #[.pointer none, .int .i64 1, .int .i64 0]) ∧ w = w' := by
  have HN := Lib.hid hn; clear hn
  go_enter Tryd.func13, Tryd.ntmps13
  go_wp2_with fail
  refine (ref_two _ _).mono ?_; rintro e w' ⟨rfl, rfl⟩
  rw [HN.out]
  go_wp2_with fail
  go_ret3
  exact ⟨rfl, rfl⟩
set_option maxHeartbeats 800000 in
theorem NewArray_bad1 (n k : Int) (hn : isPow n = true) (hk : isPow k = false) (w : World) :
    Calls Tryd.prog 13 #[.int .i64 n, .int .i64 k] w fun e w' => e = .returned (.tuple #[.pointer none, .int .i64 1, .int .i64 1]) ∧ w = w' := by
  have HN := Lib.hid hn; clear hn
  have HK := Lib.hid hk; clear hk
  go_enter Tryd.func13, Tryd.ntmps13
  go_wp2_with fail
  refine (ref_two _ _).mono ?_; rintro e w' ⟨rfl, rfl⟩
  rw [HN.out]
  go_wp2_with fail
  refine (ref_two _ _).mono ?_; rintro e w' ⟨rfl, rfl⟩
  rw [HK.out]
  go_wp2_with fail
  go_ret3
  exact ⟨rfl, rfl⟩

theorem ownsRow_fr {S : Nat → Prop} {w w' : World} {B : Nat} {e : TypeId} {s n : Nat} {v : Value} {xs : List Value} (h : w.ownsRow B e s v n xs) (hf : Fr S w w') (hn : ∀ g, v.ownBlock = some g → ¬ S g) : w'.ownsRow B e s v n xs := by
  refine ⟨h.1, ?_⟩
  rcases h.2 with h2 | ⟨g, cap, cur, h1, h2, h3, h4⟩
  · exact .inl h2
  · exact .inr ⟨g, cap, cur, h1, h2, by rw [hf.block g (lt_of_block h3) (hn g (by rw [h1]; rfl))]; exact h3, h4⟩
theorem ownsRow_shape {w : World} {B : Nat} {e : TypeId} {s n : Nat} {v : Value} {xs : List Value} (h : w.ownsRow B e s v n xs) (hn : 0 < n) : ∃ g cap, v = .slice (some ⟨g, 0, none⟩) n cap := by
  rcases h.2 with h2 | ⟨g, cap, cur, h1, _⟩
  · omega
  · exact ⟨g, cap, h1⟩
theorem Blk.grown {w w' : World} {b : Nat} {t : TypeId} {l : List Value} {row : Option Nat} (h : Blk w b t l) (hg : w.grownBy w' row) (hne : some b ≠ row) : Blk w' b t l := by
  have h' : w.heap[b]? = some (.cells l.toArray t (0, 0)) := h
  simpa [Blk, hg.block b h.lt hne] using h'
abbrev rowV (k b : Nat) : Value := .slice (some ⟨b, 0, none⟩) k k
def goneRow (k : Nat) : List Value := flat Ent.cells (List.replicate k Ent.gone)
theorem half_row (j k : Nat) (hj : j < k) : (flat Ent.cells (List.replicate j Ent.gone ++ List.replicate (k - j) Ent.zero)).set (j * 10) (.int .i64 (-1)) = flat Ent.cells (List.replicate (j + 1) Ent.gone ++ List.replicate (k - (j + 1)) Ent.zero) := by
  have e1 : (List.replicate j Ent.gone ++ List.replicate (k - j) Ent.zero)[j]? = some Ent.zero := by
    rw [List.getElem?_append_right (by simp)]
    simp [List.getElem?_replicate]; omega
  have h := flat_set Ent.cells_length (k := 0) (v := .int .i64 (-1)) (a' := Ent.gone) e1 (by omega) rfl
  rw [show j * 10 + 0 = j * 10 from rfl] at h
  rw [h]
  congr 1
  apply List.ext_getElem?
  intro q
  rw [List.getElem?_set]
  simp only [List.getElem?_append, List.getElem?_replicate, List.length_replicate, List.length_append]
  by_cases h1 : j = q
  · subst h1; simp; omega
  · rw [if_neg h1]
    by_cases h2 : q < j
    · simp [h2, show q < j + 1 by omega]
    · have h3 : ¬ q < j + 1 := by omega
      simp only [if_neg h2, if_neg h3]
      by_cases h4 : q < k
      · rw [if_pos (by omega), if_pos (by omega)]
      · rw [if_neg (by omega), if_neg (by omega)]

set_option maxHeartbeats 1600000 in
set_option maxRecDepth 10000 in
theorem NewArray_ok (n k : Nat) (hn : pow8 n) (hk : pow8 k) (w : World) :
    Calls Tryd.prog 13 #[.int .i64 n, .int .i64 k] w fun e w' => ∃ (R E B cE : Nat) (l : List (Nat × SetM)), e = .returned (.tuple #[.pointer (some ⟨R, 0, none⟩), .int .i64 0, .int .i64 0]) ∧ RefAt w' R E B cE k l ∧ Below w.heap.size w w' ∧
      (∀ q, refBlocks R E B l q → w.heap.size ≤ q) ∧ l.map (·.2) = List.replicate n ⟨0, List.replicate k Ent.gone⟩ := by
  obtain ⟨i0, hi, hz0, hz1, hz2⟩ := info_parts infoRow
  have HN := Lib.hid hn.isPow
  have HK := Lib.hid hk.isPow
  have mkb := make_bits n hn
  have mkr := make_rows k hk
  have hn1 := hn.pos
  have hn8 := hn.le
  have hk1 := hk.pos
  have hk8 := hk.le
  have HP := Lib.hid hn
  have HQ := Lib.hid hk
  clear hn hk
  go_enter Tryd.func13, Tryd.ntmps13
  go_wp2_with fail
  refine (ref_two _ _).mono ?_; rintro e w' ⟨rfl, rfl⟩
  rw [HN.out]
  go_wp2_with fail
  refine (ref_two _ _).mono ?_; rintro e w' ⟨rfl, rfl⟩
  rw [HK.out]
  go_wp2_with fail
  go_loopw [8] (fun i wr => ∃ (s : Nat) (bs : List Nat) (v : Value), s ≤ n ∧ i = .int .i64 s ∧ bs.length = s ∧ Below w.heap.size w wr
      ∧ Blk wr (w.heap.size + 1) 60 [.int .i64 n, .int .i64 k, v, .slice (some ⟨w.heap.size, 0, none⟩) n n]
      ∧ Blk wr w.heap.size 5 (zBits n)
      ∧ (∀ b ∈ bs, w.heap.size + 1 < b ∧ Blk wr b 50 (goneRow k) ∧ v.ownBlock ≠ some b) ∧ bs.Nodup
      ∧ wr.ownsRow (w.heap.size + 2) 56 1 v s (bs.map (rowV k))) (fun i _ => n - (intOf i).toNat)
  case atStart =>
    have h1 := Blk.new w (zBits n).toArray 5
    have h2 := h1.alloc (.cells #[.int .i64 n, .int .i64 k, .slice none 0 0, .slice (some ⟨w.heap.size, 0, none⟩) n n] 60)
    have h3 := Blk.new (w.alloc (.cells (zBits n).toArray 5)) #[.int .i64 n, .int .i64 k, .slice none 0 0, .slice (some ⟨w.heap.size, 0, none⟩) n n] 60
    refine ⟨0, [], .slice none 0 0, Nat.zero_le _, rfl, rfl, ?_, ?_, ?_, fun b hb => by simp at hb, List.nodup_nil, World.ownsRow_nil _ _ _ _⟩
    · exact ((Below.refl _ _).alloc (Nat.le_refl _) _).alloc (by simp) _
    · simpa using h3
    · simpa using h2
  case round =>
    obtain ⟨s, bs, v, hs, rfl, hbl, hB, hR, hBits, hW, hnd, hown⟩ := hrel
    have HBL := Lib.hid hbl
    have HB := Lib.hid hB
    have HR := Lib.hid hR
    have HBits := Lib.hid hBits
    have HW := Lib.hid hW
    have HND := Lib.hid hnd
    have HO := Lib.hid hown
    clear hbl hB hR hBits hW hnd hown
    by_cases hlt : s < n
    · have hsz : w.heap.size + 1 < wr.heap.size := HR.out.lt
      go_wp2_with fail
      have hrow := Blk.new wr (zEnts k).toArray 50
      have hB2 := HB.out.alloc HB.out.size (.cells (zEnts k).toArray 50)
      have hR2 := HR.out.alloc (.cells (zEnts k).toArray 50)
      have hBits2 := HBits.out.alloc (.cells (zEnts k).toArray 50)
      have hW2 : ∀ b ∈ bs, Blk (wr.alloc (.cells (zEnts k).toArray 50)) b 50 (goneRow k) ∧ b < wr.heap.size := fun b hb => ⟨(HW.out b hb).2.1.alloc _, (HW.out b hb).2.1.lt⟩
      have hO2 := HO.out.alloc (.cells (zEnts k).toArray 50)
      have hOlt := HO.out.lt
      generalize wr.alloc (.cells (zEnts k).toArray 50) = w2 at *
      generalize wr.heap.size = b0 at *
      have HRow := Lib.hid hrow
      have HB2 := Lib.hid hB2
      have HR2 := Lib.hid hR2
      have HBits2 := Lib.hid hBits2
      have HW2 := Lib.hid hW2
      have HO2 := Lib.hid hO2
      have HOlt := Lib.hid hOlt
      clear hrow hB2 hR2 hBits2 hW2 hO2 hOlt HB HR HBits HO
      go_loopw [32] (fun i wq => ∃ j : Nat, j ≤ k ∧ i = .int .i64 j ∧ Fr (fun q => q = b0) w2 wq ∧ Blk wq b0 50 (flat Ent.cells (List.replicate j Ent.gone ++ List.replicate (k - j) Ent.zero))) (fun i _ => k - (intOf i).toNat)
      case atStart => exact ⟨0, Nat.zero_le _, rfl, Fr.refl _ _, by simpa [zEnts] using HRow.out⟩
      case round =>
        obtain ⟨j, hj, rfl, hF, hRj⟩ := hrel
        have HF := Lib.hid hF
        have HRj := Lib.hid hRj
        clear hF hRj
        by_cases hlj : j < k
        · have hfr := HRj.out.free
          have b0c := (ent_cells HRj.out (i := j) (e := Ent.zero) (by rw [List.getElem?_append_right (by simp)]; simp [List.getElem?_replicate]; omega)).1
          go_wp2_with fail
          go_roundw
          case rel =>
            refine ⟨j + 1, by omega, by go_num, fr_set (S := fun q => q = b0) (.inl rfl) HF.out, ?_⟩
            have h := HRj.out.set (j * 10) (.int .i64 (-1))
            rw [half_row j k hlj] at h
            exact h
          case measure => first | (simp [intOf]; done) | (simp [intOf]; omega)
        · obtain rfl : j = k := by omega
          have hb3 : Blk wr b0 50 (goneRow j) := by simpa [goneRow] using HRj.out
          have hR3 := HR2.out.fr HF.out (by show ¬ (w.heap.size + 1 = b0); omega)
          have hBits3 := HBits2.out.fr HF.out (by show ¬ (w.heap.size = b0); omega)
          have hW3 : ∀ b ∈ bs, Blk wr b 50 (goneRow j) := fun b hb => (HW2.out b hb).1.fr HF.out (by show ¬ (b = b0); have := (HW2.out b hb).2; omega)
          have hO3 := ownsRow_fr HO2.out HF.out (fun g hg => by show ¬ (g = b0); have := (HOlt.out g hg).2; omega)
          have hB3 : Below w.heap.size w wr := HB2.out.trans (HF.out.below (fun q hq => by rw [hq]; omega) HB2.out.size)
          have hne : v.ownBlock ≠ some b0 := fun e => by have := (HOlt.out _ e).2; omega
          have c2 : wr.cell? ⟨w.heap.size + 1, 2, none⟩ = some v := hR3.cell 2
          have Hb3 := Lib.hid hb3
          have HR3 := Lib.hid hR3
          have HBits3 := Lib.hid hBits3
          have HW3 := Lib.hid hW3
          have HO3 := Lib.hid hO3
          have HB3 := Lib.hid hB3
          have Hne := Lib.hid hne
          clear hb3 hR3 hBits3 hW3 hO3 hB3 hne HRj HR2 HBits2 HO2 HB2 HRow
          go_wp2_with (at_builtin; refine wpList_append_own_at _ rfl _ _ 57 rfl (w.heap.size + 2) 56 i0 _ 1 24 Tryd.underlying57 hi hz0 hz1 hz2 rfl (by decide) _ _ _ rfl (HO3.out.alloc (.cells #[rowV j b0] 56)) ⟨wr.heap.size, 0, none⟩ 1 1 [rowV j b0] rfl rfl ?c1 ?c2 ?c3 ?c4 ?c5 ?_)
          case c1 =>
            intro q u hq
            have h1 := (Blk.new wr #[rowV j b0] 56).cell q
            rw [add_zero_at]
            exact h1.trans hq
          case c2 => intro u hu; simp at hu; subst hu; rfl
          case c3 => unfold maxLen; omega
          case c4 => omega
          case c5 => have := HB3.out.size; have := HR3.out.lt; simp; omega
          intro v' w4 hown4 hgrow _ hob
          obtain ⟨g', cap', rfl⟩ := ownsRow_shape hown4 (by omega)
          have hR4 := (HR3.out.alloc (.cells #[rowV j b0] 56)).grown hgrow (fun e => by have := (HOlt.out _ e.symm).1; omega)
          have hBits4 := (HBits3.out.alloc (.cells #[rowV j b0] 56)).grown hgrow (fun e => by have := (HOlt.out _ e.symm).1; omega)
          have hb4 := (Hb3.out.alloc (.cells #[rowV j b0] 56)).grown hgrow (fun e => Hne.out e.symm)
          have hW4 : ∀ b ∈ bs, Blk w4 b 50 (goneRow j) := fun b hb => ((HW3.out b hb).alloc (.cells #[rowV j b0] 56)).grown hgrow (fun e => (HW.out b hb).2.2 e.symm)
          have hB4 := (HB3.out.alloc HB3.out.size (.cells #[rowV j b0] 56)).trans (below_grown hgrow (by have := HB3.out.size; simp; omega) (fun g hg => by have := (HOlt.out g hg).1; omega))
          have hlt3 := Hb3.out.lt
          have hbs3 : ∀ b ∈ bs, b < wr.heap.size := fun b hb => (HW3.out b hb).lt
          have hob' : ∀ b, (b = b0 ∨ b ∈ bs) → (Value.slice (some ⟨g', 0, none⟩) (s + 1) cap').ownBlock ≠ some b := fun b hb e => by
            rcases hob with h | h
            · rw [h] at e
              rcases hb with rfl | hb
              · exact Hne.out e
              · exact (HW.out b hb).2.2 e
            · rw [h] at e
              simp at e
              rcases hb with rfl | hb
              · omega
              · have := hbs3 b hb; omega
          have hO4lt := hown4.lt
          have hfr := hR4.free
          have c4 : w4.cell? ⟨w.heap.size + 1, 2, none⟩ = some v := hR4.cell 2
          have HR4 := Lib.hid hR4
          have HBits4 := Lib.hid hBits4
          have Hb4 := Lib.hid hb4
          have HW4 := Lib.hid hW4
          have HB4 := Lib.hid hB4
          have HOB := Lib.hid hob'
          have HO4 := Lib.hid hown4
          have HO4lt := Lib.hid hO4lt
          clear hR4 hBits4 hb4 hW4 hB4 hob' hown4 hO4lt hob hgrow hbs3 hlt3
          go_wp2_with fail
          go_roundw
          case rel =>
            have hb0w : w.heap.size + 1 < b0 := hsz
            refine ⟨s + 1, bs ++ [b0], .slice (some ⟨g', 0, none⟩) (s + 1) cap', by omega, by go_num, by simp [HBL.out], HB4.out.setCell (Nat.le_succ _) _, ?_, HBits4.out.other (by show w.heap.size ≠ w.heap.size + 1; omega) _, ?_, ?_, ?_⟩
            · exact HR4.out.set 2 _
            · intro b hb
              rcases List.mem_append.1 hb with hb | hb
              · have h1 := (HW.out b hb).1
                exact ⟨h1, (HW4.out b hb).other (by show b ≠ w.heap.size + 1; omega) _, HOB.out b (.inr hb)⟩
              · obtain rfl : b = b0 := by simpa using hb
                exact ⟨hb0w, Hb4.out.other (by show b ≠ w.heap.size + 1; omega) _, HOB.out b (.inl rfl)⟩
            · refine List.nodup_append.2 ⟨HND.out, List.nodup_cons.2 ⟨by simp, List.nodup_nil⟩, ?_⟩
              intro q hq y hy e
              obtain rfl : y = b0 := by simpa using hy
              have := (HW2.out q hq).2
              omega
            · have h := ownsRow_fr HO4.out (fr_set (S := fun q => q = w.heap.size + 1) (b := w.heap.size + 1) (o := 2) (v := .slice (some ⟨g', 0, none⟩) (s + 1) cap') (.inl rfl) (Fr.refl _ _)) (fun g hg => by show ¬ (g = w.heap.size + 1); have := (HO4lt.out g hg).1; omega)
              simpa using h
          case measure => first | (simp [intOf]; done) | (simp [intOf]; omega)
    · obtain rfl : s = n := by omega
      obtain ⟨g, cap, rfl⟩ := ownsRow_shape HO.out (by omega)
      go_wp2_with fail
      go_ret3
      have hbl := HBL.out
      have hg := HO.out.lt g rfl
      have el : (bs.map fun b => (b, (⟨0, List.replicate k Ent.gone⟩ : SetM))).length = s := by simp [hbl]
      have e1 : List.map (fun x : Nat × SetM => x.1) (bs.map fun b => (b, (⟨0, List.replicate k Ent.gone⟩ : SetM))) = bs := by simp [Function.comp_def]
      refine ⟨w.heap.size + 1, g, w.heap.size, cap, bs.map fun b => (b, ⟨0, List.replicate k Ent.gone⟩), rfl, ?_, HB.out, ?_, ?_⟩
      · refine ⟨?_, ?_, ?_, hg.2, ?_, ?_, ?_, ?_, HQ.out, ?_⟩
        · rw [el]; exact HR.out
        · intro i x hx
          rw [List.getElem?_map, Option.map_eq_some_iff] at hx
          obtain ⟨b, hb, rfl⟩ := hx
          have := HO.out.cells rfl i (rowV k b) (by simp [hb])
          rw [add_zero_at] at this
          exact this
        · intro x hx
          obtain ⟨b, hb, rfl⟩ := List.mem_map.1 hx
          simp
        · have e2 : (bs.map fun b => (b, (⟨0, List.replicate k Ent.gone⟩ : SetM))).map (fun x => Value.int .u8 x.2.bits) = zBits s := by
            rw [← hbl]; simp [zBits, Function.comp_def]
            exact List.map_const' ..
          rw [e2]; exact HBits.out
        · intro x hx
          obtain ⟨b, hb, rfl⟩ := List.mem_map.1 hx
          exact (HW.out b hb).2.1
        · rw [e1]
          simp only [List.nodup_cons, List.mem_cons, not_or]
          refine ⟨⟨by omega, by omega, fun h => ?_⟩, ⟨by omega, fun h => ?_⟩, fun h => ?_, HND.out⟩
          · have := (HW.out _ h).1; omega
          · exact (HW.out _ h).2.2 rfl
          · have := (HW.out _ h).1; omega
        · rw [el]; exact HP.out
        · intro x hx
          obtain ⟨b, hb, rfl⟩ := List.mem_map.1 hx
          exact ⟨by simp, by simp⟩
      · intro q hq
        rcases hq with rfl | rfl | rfl | hq
        · omega
        · omega
        · exact Nat.le_refl _
        · rw [e1] at hq
          have := (HW.out _ hq).1; omega
      · rw [← hbl]; simp [Function.comp_def]
        exact List.map_const' ..
end Go.Proofs.YtjmlficbnljiaaaDoor
